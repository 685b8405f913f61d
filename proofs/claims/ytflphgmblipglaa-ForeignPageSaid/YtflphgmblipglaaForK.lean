/-
  The walk of ForeignPage: it returns true; the world behind has new blocks alone.
-/
import Derived.Test.YtflphgmblipglaaForJ
namespace Go.Proofs.Ytflphgmblipglaa
open Go.RowKit Mem
section
variable (name : ByteArray) (mname : ByteArray) (attrs : List Pair) (a : Option Addr) (c : Nat) (self : Bool) (text : ByteArray) (w : World)
/-- what the callees answer -/
abbrev FSaid (space p kind : Int) (name mname : ByteArray) (attrs : List Pair) (a : Option Addr) (c : Nat) (self : Bool) (text : ByteArray) (w : World) : Prop :=
  Hid (∀ q, foreignF p space name kind mname = q → ∀ u, Below w.heap.size w u → Calls Try.prog 17 #[.int .i64 space, .string name, .slice a attrs.length c, markA kind mname a attrs.length c self text] u fun e w' => e = .returned (.bool q) ∧ Below u.heap.size u w')
abbrev PSaid (space p : Int) (name : ByteArray) (attrs : List Pair) (a : Option Addr) (c : Nat) (w : World) : Prop :=
  Hid (∀ u, Below w.heap.size w u → Calls Try.prog 15 #[.int .i64 space, .string name, .slice a attrs.length c] u fun e w' => e = .returned (.int .i64 p) ∧ Below u.heap.size u w')

theorem page_none (space kind : Int) (h1 : (space == 1) = false) (h2 : (space == 2) = false) (HA : Hid (At w a (pairsV attrs)))
    (HF0 : FSaid space 0 kind name mname attrs a c self text w) (HP : PSaid space 0 name attrs a c w) :
    Calls Try.prog 5 #[.int .i64 space, .string name, markA kind mname a attrs.length c self text] w fun e w' => e = .returned (.bool true) ∧ Below w.heap.size w w' := by
  have h1' : (space != 1) = true := by simpa using h1
  have h2' : (space != 2) = true := by simpa using h2
  obtain ⟨q, hq, hq'⟩ : ∃ q, foreignF 0 space name kind mname = q ∧ q = false := ⟨_, rfl, by rw [foreignF]; simp [foreignB, h1, h2]⟩
  subst hq'
  have HF := HF0.out _ hq
  go_enter Try.func5, Try.ntmps5
  go_wp2_with fail
  refine (shown16_any _).mono ?_
  rintro e w1 ⟨rfl, hb1⟩
  obtain ⟨m0, m1, m2, m3, m4, HK⟩ := Keep.all (Keep.next (w := w) (g := w.heap.size) (a := a) (l := attrs) ⟨(Below.refl _ _).alloc (Nat.le_refl _) _, Row.alloc w _ _, HA.out.below ((Below.refl _ _).alloc (Nat.le_refl _) _)⟩ hb1)
  clear hb1
  go_wp2_with fail
  refine (HF _ HK.1).mono ?_
  rintro e w2 ⟨rfl, hb2⟩
  clear m0 m1 m2 m3 m4
  obtain ⟨m0, m1, m2, m3, m4, HK2⟩ := (Keep.next HK hb2).all
  clear hb2 HK
  go_wp2_with fail
  refine (HP.out _ HK2.1).mono ?_
  rintro e w3 ⟨rfl, hb3⟩
  clear m0 m1 m2 m3 m4
  obtain ⟨m0, m1, m2, m3, m4, HK3⟩ := (Keep.next HK2 hb3).all
  clear hb3 HK2
  go_wp2_with fail
  go_ret
  exact ⟨ret_bool (by first | rfl | simp [*]), HK3.1⟩

theorem page_eof (space p : Int) (hs : space = 1 ∨ space = 2) (hp : p = 0 ∨ p = 1 ∨ p = 2) (HA : Hid (At w a (pairsV attrs)))
    (HF0 : FSaid space p 6 name mname attrs a c self text w) (HP : PSaid space p name attrs a c w) :
    Calls Try.prog 5 #[.int .i64 space, .string name, markA 6 mname a attrs.length c self text] w fun e w' => e = .returned (.bool true) ∧ Below w.heap.size w w' := by
  obtain ⟨q, hq, hq'⟩ : ∃ q, foreignF p space name 6 mname = q ∧ q = false := ⟨_, rfl, by rw [foreignF]; simp [foreignB]⟩
  subst hq'
  rcases hs with rfl | rfl
  all_goals
    rcases hp with rfl | rfl | rfl
    all_goals
      have HF := HF0.out _ hq
      go_enter Try.func5, Try.ntmps5
      go_wp2_with fail
      refine (shown16_any _).mono ?_
      rintro e w1 ⟨rfl, hb1⟩
      obtain ⟨m0, m1, m2, m3, m4, HK⟩ := Keep.all (Keep.next (w := w) (g := w.heap.size) (a := a) (l := attrs) ⟨(Below.refl _ _).alloc (Nat.le_refl _) _, Row.alloc w _ _, HA.out.below ((Below.refl _ _).alloc (Nat.le_refl _) _)⟩ hb1)
      clear hb1
      go_wp2_with fail
      refine (HF _ HK.1).mono ?_
      rintro e w2 ⟨rfl, hb2⟩
      clear m0 m1 m2 m3 m4
      obtain ⟨m0, m1, m2, m3, m4, HK2⟩ := (Keep.next HK hb2).all
      clear hb2 HK
      go_wp2_with fail
      refine (HP.out _ HK2.1).mono ?_
      rintro e w3 ⟨rfl, hb3⟩
      clear m0 m1 m2 m3 m4
      obtain ⟨m0, m1, m2, m3, m4, HK3⟩ := (Keep.next HK2 hb3).all
      clear hb3 HK2
      go_wp2_with fail
      go_ret
      exact ⟨ret_bool (by first | rfl | simp [*]), HK3.1⟩

theorem page_other (space p kind : Int) (hs : space = 1 ∨ space = 2) (hp : p = 0 ∨ p = 1 ∨ p = 2) (hk1 : (kind == 1) = false) (hk2 : (kind == 2) = false) (hk6 : (kind == 6) = false) (HA : Hid (At w a (pairsV attrs)))
    (HF0 : FSaid space p kind name mname attrs a c self text w) (HP : PSaid space p name attrs a c w) :
    Calls Try.prog 5 #[.int .i64 space, .string name, markA kind mname a attrs.length c self text] w fun e w' => e = .returned (.bool true) ∧ Below w.heap.size w w' := by
  obtain ⟨q, hq, hq'⟩ : ∃ q, foreignF p space name kind mname = q ∧ q = true := ⟨_, rfl, by rw [foreignF]; rcases hs with rfl | rfl <;> simp [foreignB, hk1, hk2, hk6]⟩
  subst hq'
  have hk2' : (kind != 2) = true := by simpa using hk2
  rcases hs with rfl | rfl
  all_goals
    rcases hp with rfl | rfl | rfl
    all_goals
      have HF := HF0.out _ hq
      go_enter Try.func5, Try.ntmps5
      go_wp2_with fail
      refine (shown16_any _).mono ?_
      rintro e w1 ⟨rfl, hb1⟩
      obtain ⟨m0, m1, m2, m3, m4, HK⟩ := Keep.all (Keep.next (w := w) (g := w.heap.size) (a := a) (l := attrs) ⟨(Below.refl _ _).alloc (Nat.le_refl _) _, Row.alloc w _ _, HA.out.below ((Below.refl _ _).alloc (Nat.le_refl _) _)⟩ hb1)
      clear hb1
      go_wp2_with fail
      refine (HF _ HK.1).mono ?_
      rintro e w2 ⟨rfl, hb2⟩
      clear m0 m1 m2 m3 m4
      obtain ⟨m0, m1, m2, m3, m4, HK2⟩ := (Keep.next HK hb2).all
      clear hb2 HK
      go_wp2_with fail
      refine (HP.out _ HK2.1).mono ?_
      rintro e w3 ⟨rfl, hb3⟩
      clear m0 m1 m2 m3 m4
      obtain ⟨m0, m1, m2, m3, m4, HK3⟩ := (Keep.next HK2 hb3).all
      clear hb3 HK2
      go_wp2_with fail
      go_ret
      exact ⟨ret_bool (by first | rfl | simp [*]), HK3.1⟩

theorem page_text (space p : Int) (hs : space = 1 ∨ space = 2) (hp : p = 0 ∨ p = 1 ∨ p = 2) (HA : Hid (At w a (pairsV attrs)))
    (HF0 : FSaid space p 1 name mname attrs a c self text w) (HP : PSaid space p name attrs a c w) :
    Calls Try.prog 5 #[.int .i64 space, .string name, markA 1 mname a attrs.length c self text] w fun e w' => e = .returned (.bool true) ∧ Below w.heap.size w w' := by
  obtain ⟨q, hq, hq'⟩ : ∃ q, foreignF p space name 1 mname = q ∧ q = (p == 0) := ⟨_, rfl, by rw [foreignF]; rcases hs with rfl | rfl <;> rcases hp with rfl | rfl | rfl <;> simp [foreignB]⟩
  subst hq'
  rcases hs with rfl | rfl
  all_goals
    rcases hp with rfl | rfl | rfl
    all_goals
      simp only [show ((0 : Int) == 0) = true from rfl, show ((1 : Int) == 0) = false from rfl, show ((2 : Int) == 0) = false from rfl] at hq
      have HF := HF0.out _ hq
      go_enter Try.func5, Try.ntmps5
      go_wp2_with fail
      refine (shown16_any _).mono ?_
      rintro e w1 ⟨rfl, hb1⟩
      obtain ⟨m0, m1, m2, m3, m4, HK⟩ := Keep.all (Keep.next (w := w) (g := w.heap.size) (a := a) (l := attrs) ⟨(Below.refl _ _).alloc (Nat.le_refl _) _, Row.alloc w _ _, HA.out.below ((Below.refl _ _).alloc (Nat.le_refl _) _)⟩ hb1)
      clear hb1
      go_wp2_with fail
      refine (HF _ HK.1).mono ?_
      rintro e w2 ⟨rfl, hb2⟩
      clear m0 m1 m2 m3 m4
      obtain ⟨m0, m1, m2, m3, m4, HK2⟩ := (Keep.next HK hb2).all
      clear hb2 HK
      go_wp2_with fail
      refine (HP.out _ HK2.1).mono ?_
      rintro e w3 ⟨rfl, hb3⟩
      clear m0 m1 m2 m3 m4
      obtain ⟨m0, m1, m2, m3, m4, HK3⟩ := (Keep.next HK2 hb3).all
      clear hb3 HK2
      go_wp2_with fail
      go_ret
      exact ⟨ret_bool (by first | rfl | simp [*]), HK3.1⟩

theorem page_start2 (space : Int) (hs : space = 1 ∨ space = 2) (HA : Hid (At w a (pairsV attrs)))
    (HF0 : FSaid space 2 2 name mname attrs a c self text w) (HP : PSaid space 2 name attrs a c w) :
    Calls Try.prog 5 #[.int .i64 space, .string name, markA 2 mname a attrs.length c self text] w fun e w' => e = .returned (.bool true) ∧ Below w.heap.size w w' := by
  obtain ⟨q, hq, hq'⟩ : ∃ q, foreignF 2 space name 2 mname = q ∧ q = false := ⟨_, rfl, by rw [foreignF]; simp [foreignB]⟩
  subst hq'
  rcases hs with rfl | rfl
  all_goals
    have HF := HF0.out _ hq
    go_enter Try.func5, Try.ntmps5
    go_wp2_with fail
    refine (shown16_any _).mono ?_
    rintro e w1 ⟨rfl, hb1⟩
    obtain ⟨m0, m1, m2, m3, m4, HK⟩ := Keep.all (Keep.next (w := w) (g := w.heap.size) (a := a) (l := attrs) ⟨(Below.refl _ _).alloc (Nat.le_refl _) _, Row.alloc w _ _, HA.out.below ((Below.refl _ _).alloc (Nat.le_refl _) _)⟩ hb1)
    clear hb1
    go_wp2_with fail
    refine (HF _ HK.1).mono ?_
    rintro e w2 ⟨rfl, hb2⟩
    clear m0 m1 m2 m3 m4
    obtain ⟨m0, m1, m2, m3, m4, HK2⟩ := (Keep.next HK hb2).all
    clear hb2 HK
    go_wp2_with fail
    refine (HP.out _ HK2.1).mono ?_
    rintro e w3 ⟨rfl, hb3⟩
    clear m0 m1 m2 m3 m4
    obtain ⟨m0, m1, m2, m3, m4, HK3⟩ := (Keep.next HK2 hb3).all
    clear hb3 HK2
    go_wp2_with fail
    go_ret
    exact ⟨ret_bool (by first | rfl | simp [*]), HK3.1⟩

theorem page_start1 (space : Int) (hs : space = 1 ∨ space = 2) (HA : Hid (At w a (pairsV attrs)))
    (HF0 : FSaid space 1 2 name mname attrs a c self text w) (HP : PSaid space 1 name attrs a c w) :
    Calls Try.prog 5 #[.int .i64 space, .string name, markA 2 mname a attrs.length c self text] w fun e w' => e = .returned (.bool true) ∧ Below w.heap.size w w' := by
  by_cases hmg : mname.toList = ([109, 103, 108, 121, 112, 104] : List UInt8)
  · obtain ⟨q, hq, hq'⟩ : ∃ q, foreignF 1 space name 2 mname = q ∧ q = true := ⟨_, rfl, by rw [foreignF]; rcases hs with rfl | rfl <;> simp [foreignB, hmg]⟩
    subst hq'
    rcases hs with rfl | rfl
    all_goals
      have HF := HF0.out _ hq
      go_enter Try.func5, Try.ntmps5
      go_wp2_with fail
      refine (shown16_any _).mono ?_
      rintro e w1 ⟨rfl, hb1⟩
      obtain ⟨m0, m1, m2, m3, m4, HK⟩ := Keep.all (Keep.next (w := w) (g := w.heap.size) (a := a) (l := attrs) ⟨(Below.refl _ _).alloc (Nat.le_refl _) _, Row.alloc w _ _, HA.out.below ((Below.refl _ _).alloc (Nat.le_refl _) _)⟩ hb1)
      clear hb1
      go_wp2_with fail
      refine (HF _ HK.1).mono ?_
      rintro e w2 ⟨rfl, hb2⟩
      clear m0 m1 m2 m3 m4
      obtain ⟨m0, m1, m2, m3, m4, HK2⟩ := (Keep.next HK hb2).all
      clear hb2 HK
      go_wp2_with fail
      refine (HP.out _ HK2.1).mono ?_
      rintro e w3 ⟨rfl, hb3⟩
      clear m0 m1 m2 m3 m4
      obtain ⟨m0, m1, m2, m3, m4, HK3⟩ := (Keep.next HK2 hb3).all
      clear hb3 HK2
      go_wp2_with fail
      go_ret
      exact ⟨ret_bool (by first | rfl | simp [*]), HK3.1⟩
  · have hmg' : (mname.toList == ([109, 103, 108, 121, 112, 104] : List UInt8)) = false := by simpa using hmg
    by_cases hma : mname.toList = ([109, 97, 108, 105, 103, 110, 109, 97, 114, 107] : List UInt8)
    · obtain ⟨q, hq, hq'⟩ : ∃ q, foreignF 1 space name 2 mname = q ∧ q = true := ⟨_, rfl, by rw [foreignF]; rcases hs with rfl | rfl <;> simp [foreignB, hma]⟩
      subst hq'
      clear hmg hmg'
      rcases hs with rfl | rfl
      all_goals
        have HF := HF0.out _ hq
        go_enter Try.func5, Try.ntmps5
        go_wp2_with fail
        refine (shown16_any _).mono ?_
        rintro e w1 ⟨rfl, hb1⟩
        obtain ⟨m0, m1, m2, m3, m4, HK⟩ := Keep.all (Keep.next (w := w) (g := w.heap.size) (a := a) (l := attrs) ⟨(Below.refl _ _).alloc (Nat.le_refl _) _, Row.alloc w _ _, HA.out.below ((Below.refl _ _).alloc (Nat.le_refl _) _)⟩ hb1)
        clear hb1
        go_wp2_with fail
        refine (HF _ HK.1).mono ?_
        rintro e w2 ⟨rfl, hb2⟩
        clear m0 m1 m2 m3 m4
        obtain ⟨m0, m1, m2, m3, m4, HK2⟩ := (Keep.next HK hb2).all
        clear hb2 HK
        go_wp2_with fail
        refine (HP.out _ HK2.1).mono ?_
        rintro e w3 ⟨rfl, hb3⟩
        clear m0 m1 m2 m3 m4
        obtain ⟨m0, m1, m2, m3, m4, HK3⟩ := (Keep.next HK2 hb3).all
        clear hb3 HK2
        go_wp2_with fail
        go_ret
        exact ⟨ret_bool (by first | rfl | simp [*]), HK3.1⟩
    · have hma' : (mname.toList == ([109, 97, 108, 105, 103, 110, 109, 97, 114, 107] : List UInt8)) = false := by simpa using hma
      obtain ⟨q, hq, hq'⟩ : ∃ q, foreignF 1 space name 2 mname = q ∧ q = false := ⟨_, rfl, by rw [foreignF]; rcases hs with rfl | rfl <;> simp [foreignB, hma, hmg]⟩
      subst hq'
      clear hmg hma
      rcases hs with rfl | rfl
      all_goals
        have HF := HF0.out _ hq
        go_enter Try.func5, Try.ntmps5
        go_wp2_with fail
        refine (shown16_any _).mono ?_
        rintro e w1 ⟨rfl, hb1⟩
        obtain ⟨m0, m1, m2, m3, m4, HK⟩ := Keep.all (Keep.next (w := w) (g := w.heap.size) (a := a) (l := attrs) ⟨(Below.refl _ _).alloc (Nat.le_refl _) _, Row.alloc w _ _, HA.out.below ((Below.refl _ _).alloc (Nat.le_refl _) _)⟩ hb1)
        clear hb1
        go_wp2_with fail
        refine (HF _ HK.1).mono ?_
        rintro e w2 ⟨rfl, hb2⟩
        clear m0 m1 m2 m3 m4
        obtain ⟨m0, m1, m2, m3, m4, HK2⟩ := (Keep.next HK hb2).all
        clear hb2 HK
        go_wp2_with fail
        refine (HP.out _ HK2.1).mono ?_
        rintro e w3 ⟨rfl, hb3⟩
        clear m0 m1 m2 m3 m4
        obtain ⟨m0, m1, m2, m3, m4, HK3⟩ := (Keep.next HK2 hb3).all
        clear hb3 HK2
        go_wp2_with fail
        go_ret
        exact ⟨ret_bool (by first | rfl | simp [*]), HK3.1⟩

theorem page_start0 (space : Int) (hs : space = 1 ∨ space = 2) (HA : Hid (At w a (pairsV attrs)))
    (HF0 : FSaid space 0 2 name mname attrs a c self text w) (HP : PSaid space 0 name attrs a c w) :
    Calls Try.prog 5 #[.int .i64 space, .string name, markA 2 mname a attrs.length c self text] w fun e w' => e = .returned (.bool true) ∧ Below w.heap.size w w' := by
  cases han : (name.toList == ([97, 110, 110, 111, 116, 97, 116, 105, 111, 110, 45, 120, 109, 108] : List UInt8))
  all_goals
    cases hsv : (mname.toList == ([115, 118, 103] : List UInt8))
    all_goals
      obtain ⟨q, hq, hq'⟩ : ∃ q, foreignF 0 space name 2 mname = q ∧ q = !((space == 2) && (name.toList == ([97, 110, 110, 111, 116, 97, 116, 105, 111, 110, 45, 120, 109, 108] : List UInt8)) && (mname.toList == ([115, 118, 103] : List UInt8))) := ⟨_, rfl, by rw [foreignF, han, hsv]; rcases hs with rfl | rfl <;> simp [foreignB]⟩
      rw [han, hsv] at hq'
      rcases hs with rfl | rfl
      all_goals
        simp at hq'
        subst hq'
        have HF := HF0.out _ hq
        go_enter Try.func5, Try.ntmps5
        go_wp2_with fail
        refine (shown16_any _).mono ?_
        rintro e w1 ⟨rfl, hb1⟩
        obtain ⟨m0, m1, m2, m3, m4, HK⟩ := Keep.all (Keep.next (w := w) (g := w.heap.size) (a := a) (l := attrs) ⟨(Below.refl _ _).alloc (Nat.le_refl _) _, Row.alloc w _ _, HA.out.below ((Below.refl _ _).alloc (Nat.le_refl _) _)⟩ hb1)
        clear hb1
        go_wp2_with fail
        refine (HF _ HK.1).mono ?_
        rintro e w2 ⟨rfl, hb2⟩
        clear m0 m1 m2 m3 m4
        obtain ⟨m0, m1, m2, m3, m4, HK2⟩ := (Keep.next HK hb2).all
        clear hb2 HK
        go_wp2_with fail
        refine (HP.out _ HK2.1).mono ?_
        rintro e w3 ⟨rfl, hb3⟩
        clear m0 m1 m2 m3 m4
        obtain ⟨m0, m1, m2, m3, m4, HK3⟩ := (Keep.next HK2 hb3).all
        clear hb3 HK2
        go_wp2_with fail
        go_ret
        exact ⟨ret_bool (by first | rfl | simp [*]), HK3.1⟩

theorem lawPage (space kind : Int) (hl : attrs.length ≤ maxLen) (hs : ∀ p ∈ attrs, p.2.size ≤ maxLen) (ha : At w a (pairsV attrs)) :
    Calls Try.prog 5 #[.int .i64 space, .string name, markA kind mname a attrs.length c self text] w fun e w' => e = .returned (.bool true) ∧ Below w.heap.size w w' := by
  have HF : FSaid space (pointF space name attrs) kind name mname attrs a c self text w := Lib.hid fun q hq u hu => by
    subst hq
    exact foreign_any space name attrs a c kind mname a attrs.length c self text u hl hs (ha.below hu)
  have HP : PSaid space (pointF space name attrs) name attrs a c w := Lib.hid fun u hu => point_any space name attrs a c u hl (valueOf_size attrs _ hs) (ha.below hu)
  have HA := Lib.hid ha
  by_cases hsp : space = 1 ∨ space = 2
  · have hp := pointF_cases space name attrs
    by_cases h6 : kind = 6
    · subst h6; exact page_eof name mname attrs a c self text w space _ hsp hp HA HF HP
    · by_cases h1 : kind = 1
      · subst h1; exact page_text name mname attrs a c self text w space _ hsp hp HA HF HP
      · by_cases h2 : kind = 2
        · subst h2
          rcases hp with h | h | h
          · rw [h] at HF HP; exact page_start0 name mname attrs a c self text w space hsp HA HF HP
          · rw [h] at HF HP; exact page_start1 name mname attrs a c self text w space hsp HA HF HP
          · rw [h] at HF HP; exact page_start2 name mname attrs a c self text w space hsp HA HF HP
        · exact page_other name mname attrs a c self text w space _ kind hsp hp (by simpa using h1) (by simpa using h2) (by simpa using h6) HA HF HP
  · have h : pointF space name attrs = 0 := by rw [pointF, if_neg (by omega), if_neg (by omega)]
    rw [h] at HF HP
    exact page_none name mname attrs a c self text w space kind (by simp; omega) (by simp; omega) HA HF HP
end
end Go.Proofs.Ytflphgmblipglaa
