/-
  Contract: colanderref16.Point: what it computes; the world behind has new blocks alone.
-/
import Derived.Test.YtflphgmblipglaaForB
namespace Go.Proofs.Ytflphgmblipglaa
open Go.RowKit Mem

theorem refPoint_one (name : ByteArray) (attrs : List Pair) (a : Option Addr) (c : Nat) (w : World) :
    Calls Try.prog 16 #[.int .i64 1, .string name, .slice a attrs.length c] w fun e w' => e = .returned (.int .i64 (pointF 1 name attrs)) ∧ Below w.heap.size w w' := by
  cases hin : isIn pageNames name
  all_goals
    have HP : Hid (pointF 1 name attrs = if isIn pageNames name then 2 else 0) := by show _ = _; simp [pointF]
    go_enter Try.func16, Try.ntmps16
    go_wp2_with (go_at_call 64; refine (in_any _ pageNames _ _ _ (by decide) (Row.alloc _ _ _).at).mono ?_; rintro e w1 ⟨rfl, rfl⟩)
    go_ret
    exact ⟨ret_int (by rw [HP.out, hin]; rfl), (Below.refl _ _).alloc (Nat.le_refl _) _⟩

theorem refPoint_text (name : ByteArray) (attrs : List Pair) (a : Option Addr) (c : Nat) (w : World) (hin : isIn textNames name = true) :
    Calls Try.prog 16 #[.int .i64 2, .string name, .slice a attrs.length c] w fun e w' => e = .returned (.int .i64 (pointF 2 name attrs)) ∧ Below w.heap.size w w' := by
  have HP : Hid (pointF 2 name attrs = 1) := by show _ = _; simp [pointF, hin]
  go_enter Try.func16, Try.ntmps16
  go_wp2_with (go_at_call 64; refine (in_any _ textNames _ _ _ (by decide) (Row.alloc _ _ _).at).mono ?_; rintro e w1 ⟨rfl, rfl⟩)
  go_ret
  exact ⟨ret_int HP.out.symm, (Below.refl _ _).alloc (Nat.le_refl _) _⟩

theorem refPoint_zero (space : Int) (name : ByteArray) (attrs : List Pair) (a : Option Addr) (c : Nat) (w : World) (h1 : (space == 1) = false) (h2 : (space == 2) = false) :
    Calls Try.prog 16 #[.int .i64 space, .string name, .slice a attrs.length c] w fun e w' => e = .returned (.int .i64 (pointF space name attrs)) ∧ Below w.heap.size w w' := by
  have HP : Hid (pointF space name attrs = 0) := by show _ = _; rw [pointF, if_neg (by simpa using h1), if_neg (by simpa using h2)]
  have h2' : (space != 2) = true := by simpa using h2
  go_enter Try.func16, Try.ntmps16
  go_wp2_with fail
  go_ret
  exact ⟨ret_int HP.out.symm, Below.refl _ _⟩

theorem refPoint_other (name : ByteArray) (attrs : List Pair) (a : Option Addr) (c : Nat) (w : World) (hin : isIn textNames name = false) (hn : (name.toList == ([97, 110, 110, 111, 116, 97, 116, 105, 111, 110, 45, 120, 109, 108] : List UInt8)) = false) :
    Calls Try.prog 16 #[.int .i64 2, .string name, .slice a attrs.length c] w fun e w' => e = .returned (.int .i64 (pointF 2 name attrs)) ∧ Below w.heap.size w w' := by
  have HP : Hid (pointF 2 name attrs = 0) := by
    show _ = _
    rw [pointF, if_neg (by decide), if_pos rfl, hin, if_neg (by decide), if_neg]
    intro e
    rw [eq_mk_iff] at e
    rw [e] at hn
    simp at hn
  go_enter Try.func16, Try.ntmps16
  go_wp2_with (go_at_call 64; refine (in_any _ textNames _ _ _ (by decide) (Row.alloc _ _ _).at).mono ?_; rintro e w1 ⟨rfl, rfl⟩)
  go_ret
  exact ⟨ret_int HP.out.symm, (Below.refl _ _).alloc (Nat.le_refl _) _⟩

theorem refPoint_ann (name : ByteArray) (attrs : List Pair) (a : Option Addr) (c : Nat) (w : World) (hin : isIn textNames name = false) (hn : name.toList = ([97, 110, 110, 111, 116, 97, 116, 105, 111, 110, 45, 120, 109, 108] : List UInt8))
    (hl : attrs.length ≤ maxLen) (hs : ∀ p ∈ attrs, p.2.size ≤ maxLen) (ha : At w a (pairsV attrs)) :
    Calls Try.prog 16 #[.int .i64 2, .string name, .slice a attrs.length c] w fun e w' => e = .returned (.int .i64 (pointF 2 name attrs)) ∧ Below w.heap.size w w' := by
  have HP : Hid (pointF 2 name attrs = if isIn encNames ⟨(lowS (valueOf attrs (⟨#[101, 110, 99, 111, 100, 105, 110, 103]⟩ : ByteArray)).toList).toArray⟩ then 2 else 0) := by
    show _ = _
    rw [pointF, if_neg (by decide), if_pos rfl, hin, if_neg (by decide), if_pos ((eq_mk_iff _ _).2 hn)]
  have HA := Lib.hid ha
  have HS := Lib.hid hs
  clear ha hs
  unfold maxLen at hl
  go_enter Try.func16, Try.ntmps16
  go_wp2_with (go_at_call 64; refine (in_any _ textNames _ _ _ (by decide) (Row.alloc _ _ _).at).mono ?_; rintro e w1 ⟨rfl, rfl⟩)
  go_loopw [7] (fun i wr => ∃ k : Nat, k ≤ attrs.length ∧ i = .int .i64 k ∧ Below w.heap.size w wr ∧ valueOf attrs (⟨#[101, 110, 99, 111, 100, 105, 110, 103]⟩ : ByteArray) = valueOf (attrs.drop k) (⟨#[101, 110, 99, 111, 100, 105, 110, 103]⟩ : ByteArray)) (fun i _ => attrs.length - (intOf i).toNat)
  case atStart => exact ⟨0, Nat.zero_le _, rfl, (Below.refl _ _).alloc (Nat.le_refl _) _, rfl⟩
  case round =>
    obtain ⟨k, hk, rfl, hb, hv⟩ := hrel
    have HV := Lib.hid hv
    have HB := Lib.hid hb
    by_cases hlt : k < attrs.length
    · obtain ⟨b, o, rfl, hlb, h1, h2⟩ := pair_cells (HA.out.below (hb.mono (Nat.le_refl _))) hlt
      have hsz := HS.out attrs[k] (List.getElem_mem hlt)
      clear hv hb
      by_cases he : attrs[k].1 = (⟨#[101, 110, 99, 111, 100, 105, 110, 103]⟩ : ByteArray)
      · have he' : attrs[k].1.toList = ([101, 110, 99, 111, 100, 105, 110, 103] : List UInt8) := (eq_mk_iff _ _).1 he
        have HH := Lib.hid (HV.out.trans (valueOf_hit attrs _ k hlt he))
        clear he
        cases hen : isIn encNames ⟨(lowS attrs[k].2.toList).toArray⟩
        all_goals
          go_wp2_with (first | (go_at_call 26; refine (Lower_any _ _ hsz).mono ?_; rintro e w2 ⟨rfl, hb2⟩; have HB2 := Lib.hid hb2; clear hb2) | (go_at_call 64; refine (in_any _ encNames _ _ _ (by decide) (Row.alloc _ _ _).at).mono ?_; rintro e w3 ⟨rfl, rfl⟩))
          go_ret
          refine ⟨ret_int (by rw [HP.out, HH.out, hen]; rfl), (belowCall HB.out HB2.out).alloc (belowCall HB.out HB2.out).size _⟩
      · have he' : (attrs[k].1.toList == ([101, 110, 99, 111, 100, 105, 110, 103] : List UInt8)) = false := by rw [beq_eq_false_iff_ne]; exact fun e => he ((eq_mk_iff _ _).2 e)
        have HE := Lib.hid he
        clear he
        go_wp2_with fail
        go_roundw
        case rel => exact ⟨k + 1, by omega, by go_num, HB.out, by rw [HV.out, valueOf_step attrs _ k hlt HE.out]⟩
        case measure => simp [intOf]; omega
    · clear hb hv
      go_wp2_with fail
      go_ret
      refine ⟨ret_int ?_, HB.out⟩
      rw [HP.out, HV.out, List.drop_of_length_le (by omega), valueOf, show (⟨#[]⟩ : ByteArray).toList = [] from by simp [ByteArray.toList_eq], if_neg (by decide)]

theorem refPoint_any (space : Int) (name : ByteArray) (attrs : List Pair) (a : Option Addr) (c : Nat) (w : World) (hl : attrs.length ≤ maxLen) (hs : ∀ p ∈ attrs, p.2.size ≤ maxLen) (ha : At w a (pairsV attrs)) :
    Calls Try.prog 16 #[.int .i64 space, .string name, .slice a attrs.length c] w fun e w' => e = .returned (.int .i64 (pointF space name attrs)) ∧ Below w.heap.size w w' := by
  by_cases h1 : space = 1
  · subst h1; exact refPoint_one name attrs a c w
  · by_cases h2 : space = 2
    · subst h2
      cases hin : isIn textNames name
      · by_cases hn : name.toList = ([97, 110, 110, 111, 116, 97, 116, 105, 111, 110, 45, 120, 109, 108] : List UInt8)
        · exact refPoint_ann name attrs a c w hin hn hl hs ha
        · exact refPoint_other name attrs a c w hin (by simpa using hn)
      · exact refPoint_text name attrs a c w hin
    · exact refPoint_zero space name attrs a c w (by simpa using h1) (by simpa using h2)

theorem valueOf_size (attrs : List Pair) (n : ByteArray) (hs : ∀ p ∈ attrs, p.2.size ≤ maxLen) : (valueOf attrs n).size ≤ maxLen := by
  induction attrs with
  | nil => rw [valueOf]; decide
  | cons p r ih =>
    rw [valueOf]
    split
    · exact hs p List.mem_cons_self
    · exact ih fun q hq => hs q (List.mem_cons_of_mem _ hq)
end Go.Proofs.Ytflphgmblipglaa
