/-
  Contracts: slices.Index, Contains at strings; the open elements' named, search (of any function value that only reads), Has, HasNode.
-/
import Derived.Test.YtidbihdnginmcaaStkB
import Derived.Test.YtidbihdnginmcaaOpenF
import Derived.Test.YtidbihdnginmcaaOpenS
import Derived.Shelf.Abstract
namespace Go.Proofs.Ytidbihdnginmcaa
open Go.RowKit Mem

theorem isW_cons (y : ByteArray) (l : List ByteArray) (x : ByteArray) : isW (y :: l) x = ((x.toList == y.toList) || isW l x) := by simp [isW]
theorem isW_drop (l : List ByteArray) (x : ByteArray) (k : Nat) (h : k < l.length) : isW (l.drop k) x = ((x.toList == l[k].toList) || isW (l.drop (k + 1)) x) := by
  rw [List.drop_eq_getElem_cons h, isW_cons]

theorem sindex_any (l : List ByteArray) (a : Option Addr) (c : Nat) (x : ByteArray) (w : World) (ha : At w a (strsV l)) (hl : l.length ≤ 9223372036854775806) :
    Calls Try.prog 111 #[.slice a l.length c, .string x] w fun e w' => ∃ i : Int, e = .returned (.int .i64 i) ∧ decide (0 ≤ i) = isW l x ∧ w = w' := by
  have HA := Lib.hid ha
  clear ha
  go_enter Try.func111, Try.ntmps111
  go_wp2_with fail
  go_loop [8] (fun i => ∃ k : Nat, k ≤ l.length ∧ i = .int .i64 k ∧ isW l x = isW (l.drop k) x) (fun i => l.length - (intOf i).toNat)
  case atStart => exact ⟨0, Nat.zero_le _, rfl, rfl⟩
  case round =>
    obtain ⟨k, hk, rfl, hv⟩ := hrel
    have HV := Lib.hid hv
    clear hv
    by_cases hlt : k < l.length
    · obtain ⟨b, o, rfl, hb, e1⟩ := str_cell HA.out hlt
      have HD := Lib.hid (isW_drop l x k hlt)
      cases hq : (x.toList == l[k].toList)
      · rw [hq] at HD
        go_wp2_with fail
        go_round
        case rel => exact ⟨k + 1, by omega, by go_num, by rw [HV.out, HD.out]; rfl⟩
        case measure => simp [intOf]; omega
      · rw [hq] at HD
        go_wp2_with fail
        go_ret
        exact ⟨_, rfl, by rw [HV.out, HD.out]; simp, rfl⟩
    · have HD : Hid (isW (l.drop k) x = false) := Lib.hid (by rw [List.drop_of_length_le (by omega)]; rfl)
      go_wp2_with fail
      go_ret
      exact ⟨-1, rfl, by rw [HV.out, HD.out]; rfl, rfl⟩

theorem contains_any (l : List ByteArray) (a : Option Addr) (c : Nat) (x : ByteArray) (w : World) (ha : At w a (strsV l)) (hl : l.length ≤ 9223372036854775806) :
    Calls Try.prog 98 #[.slice a l.length c, .string x] w fun e w' => e = .returned (.bool (isW l x)) ∧ w = w' := by
  have HC := Lib.hid (sindex_any l a c x w ha hl)
  clear ha
  go_enter Try.func98, Try.ntmps98
  go_wp2_with (go_at_call 111; go_must (refine HC.out.mono ?_; rintro e w1 ⟨i, rfl, hi, rfl⟩; have HI := Lib.hid hi; clear hi))
  go_ret
  exact ⟨ret_bool HI.out, rfl⟩

/-- is a number that of an element of the page, of one of some names -/
def namedF (T : TreeD) (n : Int) (names : List ByteArray) : Bool := elemF T n && ((spaceQ T n == 0) && isW names (nameQ T n))
/-- does a number's element end a search -/
def stopF (T : TreeD) (scope n : Int) : Bool := elemF T n && boundsF scope (spaceQ T n) (nameQ T n)
def searchF (p stop : Int → Bool) : List Int → Bool
  | [] => false
  | x :: r => p x || (!stop x && searchF p stop r)

section
variable (T : TreeD) (w : World) (sb tb g : Nat) (gs : Option Nat) (l : List Int)
set_option maxRecDepth 100000 in
theorem snamed_any (h : StkO w sb tb gs l) (hT : TreeO w tb g T) (hat : ∀ i (h : i < T.nodes.length), T.nodes[i].attrs.length ≤ 1048576) (n : Int) (names : List ByteArray) (a : Option Addr) (c : Nat) (ha : At w a (strsV names)) (hl : names.length ≤ 1048576) :
    Calls Try.prog 65 #[.pointer (some ⟨sb, 0, none⟩), .int .i64 n, .slice a names.length c] w fun e w' => e = .returned (.bool (namedF T n names)) ∧ Below w.heap.size w w' := by
  obtain ⟨sa, sc, c0, _⟩ := h.cells
  have HW := Lib.hid (What_any T tb g w n hat hT)
  have HT := Lib.hid hT
  have HA := Lib.hid ha
  have HN : Hid (namedF T n names = (elemF T n && ((spaceQ T n == 0) && isW names (nameQ T n)))) := by show _ = _; rfl
  clear h hT ha hat
  cases he : elemF T n <;> cases hs : (spaceQ T n == 0)
  all_goals
    rw [he, hs] at HN
    go_enter Try.func65, Try.ntmps65
    go_wp2_with (first | (go_at_call 43; go_must (refine HW.out.mono ?_; rintro e w1 ⟨v, rfl, _, hb⟩; have c0' := cell_later hb c0; have HE := Lib.hid (elem_any T tb g w1 n (HT.out.below hb)); rw [he] at HE; have HCo := Lib.hid (contains_any names a c (nameQ T n) w1 (HA.out.below hb) (by omega)); have HB := Lib.hid hb; clear hb)) | (go_at_call 91; go_must (refine HE.out.mono ?_; rintro e w2 ⟨rfl, rfl⟩)) | (go_at_call 98; go_must (refine HCo.out.mono ?_; rintro e w2 ⟨rfl, rfl⟩)))
    go_ret
    exact ⟨ret_bool (by rw [HN.out]; simp), HB.out⟩
end
end Go.Proofs.Ytidbihdnginmcaa
