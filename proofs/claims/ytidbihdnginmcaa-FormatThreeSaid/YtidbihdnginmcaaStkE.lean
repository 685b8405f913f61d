/-
  Contracts: the open elements' Has, HasNode, Until.
-/
import Derived.Test.YtidbihdnginmcaaStkD
namespace Go.Proofs.Ytidbihdnginmcaa
open Go.RowKit Mem

section
variable (T : TreeD) (w : World) (sb tb g : Nat) (gs : Option Nat) (l : List Int)
theorem has1_any (h : StkO w sb tb gs l) (hT : TreeO w tb g T) (hat : ∀ i (h : i < T.nodes.length), T.nodes[i].attrs.length ≤ 1048576) (n : Int) (names : List ByteArray) (a : Option Addr) (c : Nat) (ha : At w a (strsV names)) (hl : names.length ≤ 1048576)
    (b1 b2 : Nat) (h1 : w.cell? ⟨b1, 0, none⟩ = some (.pointer (some ⟨sb, 0, none⟩))) (h2 : w.cell? ⟨b2, 0, none⟩ = some (.slice a names.length c)) :
    Calls Try.prog 64 #[.int .i64 n, .pointer (some ⟨b1, 0, none⟩), .pointer (some ⟨b2, 0, none⟩)] w fun e w' => e = .returned (.bool (namedF T n names)) ∧ Below w.heap.size w w' := by
  have HC := Lib.hid (snamed_any T w sb tb g gs l h hT hat n names a c ha hl)
  clear h hT hat ha
  go_enter Try.func64, Try.ntmps64
  go_wp2_with (go_at_call 65; go_must (refine HC.out.mono ?_; rintro e w1 ⟨rfl, hb⟩; have HB := Lib.hid hb; clear hb))
  go_ret
  exact ⟨rfl, HB.out⟩
theorem hasnode1_any (n m : Int) (b1 : Nat) (h1 : w.cell? ⟨b1, 0, none⟩ = some (.int .i64 m)) :
    Calls Try.prog 66 #[.int .i64 n, .pointer (some ⟨b1, 0, none⟩)] w fun e w' => e = .returned (.bool (n == m)) ∧ Below w.heap.size w w' := by
  go_enter Try.func66, Try.ntmps66
  go_wp2_with fail
  go_ret
  exact ⟨rfl, Below.refl _ _⟩

def hasF (T : TreeD) (l : List Int) (scope : Int) (names : List ByteArray) : Bool := searchF (fun x => namedF T x names) (stopF T scope) l.reverse
def hasNodeF (T : TreeD) (l : List Int) (m : Int) : Bool := searchF (fun x => x == m) (stopF T 0) l.reverse

set_option maxRecDepth 100000 in
theorem Has_any (h : StkO w sb tb gs l) (hT : TreeO w tb g T) (hat : ∀ i (h : i < T.nodes.length), T.nodes[i].attrs.length ≤ 1048576) (hl : l.length ≤ 1048576) (scope : Int) (names : List ByteArray) (a : Option Addr) (c : Nat) (ha : At w a (strsV names)) (hn : names.length ≤ 1048576) :
    Calls Try.prog 28 #[.pointer (some ⟨sb, 0, none⟩), .int .i64 scope, .slice a names.length c] w fun e w' => e = .returned (.bool (hasF T l scope names)) ∧ Below w.heap.size w w' := by
  have hb1 := ((Below.refl w.heap.size w).alloc (Nat.le_refl _) (.cells #[.pointer (some ⟨sb, 0, none⟩)] 52))
  have hb2 := hb1.alloc (by simp) (.cells #[.slice a names.length c] 51)
  have k1 := heap_alloc_new w (.cells #[.pointer (some ⟨sb, 0, none⟩)] 52)
  have k2 := heap_alloc_new (w.alloc (.cells #[.pointer (some ⟨sb, 0, none⟩)] 52)) (.cells #[.slice a names.length c] 51)
  have k1' := (heap_alloc_old (w.alloc (.cells #[.pointer (some ⟨sb, 0, none⟩)] 52)) (.cells #[.slice a names.length c] 51) (r := w.heap.size) (by simp)).trans k1
  have hs1 : (w.alloc (.cells #[.pointer (some ⟨sb, 0, none⟩)] 52)).heap.size = w.heap.size + 1 := by simp
  rw [hs1] at k2
  have HF := Lib.hid (search_any T ((w.alloc (.cells #[.pointer (some ⟨sb, 0, none⟩)] 52)).alloc (.cells #[.slice a names.length c] 51)) sb tb g gs l (h.below hb2) (hT.below hb2) hat hl scope 64 #[.pointer (some ⟨w.heap.size, 0, none⟩), .pointer (some ⟨w.heap.size + 1, 0, none⟩)] (enters_of Try.func64 (by kernel_rfl) rfl)
    (fun x => namedF T x names) (fun W x hW => has1_any T W sb tb g gs l ((h.below hb2).below hW) ((hT.below hb2).below hW) hat x names a c ((ha.below hb2).below hW) hn w.heap.size (w.heap.size + 1) (cell_later hW (cell_of_row _ _ 0 _ _ _ k1')) (cell_later hW (cell_of_row _ _ 0 _ _ _ k2))))
  have HB2 := Lib.hid hb2
  clear h hT hat ha hb1 hb2 k1 k1' k2 hs1
  go_enter Try.func28, Try.ntmps28
  go_wp2_with (go_at_call 63; go_must (refine HF.out.mono ?_; rintro e w1 ⟨rfl, hb⟩; have HB := Lib.hid hb; clear hb))
  go_ret
  exact ⟨rfl, belowCall HB2.out HB.out⟩

set_option maxRecDepth 100000 in
theorem HasNode_any (h : StkO w sb tb gs l) (hT : TreeO w tb g T) (hat : ∀ i (h : i < T.nodes.length), T.nodes[i].attrs.length ≤ 1048576) (hl : l.length ≤ 1048576) (m : Int) :
    Calls Try.prog 29 #[.pointer (some ⟨sb, 0, none⟩), .int .i64 m] w fun e w' => e = .returned (.bool (hasNodeF T l m)) ∧ Below w.heap.size w w' := by
  have hb1 := ((Below.refl w.heap.size w).alloc (Nat.le_refl _) (.cells #[.int .i64 m] 3))
  have k1 := heap_alloc_new w (.cells #[.int .i64 m] 3)
  have HF := Lib.hid (search_any T (w.alloc (.cells #[.int .i64 m] 3)) sb tb g gs l (h.below hb1) (hT.below hb1) hat hl 0 66 #[.pointer (some ⟨w.heap.size, 0, none⟩)] (enters_of Try.func66 (by kernel_rfl) rfl)
    (fun x => x == m) (fun W x hW => hasnode1_any W x m w.heap.size (cell_later hW (cell_of_row _ _ 0 _ _ _ k1))))
  have HB2 := Lib.hid hb1
  clear h hT hat hb1 k1
  go_enter Try.func29, Try.ntmps29
  go_wp2_with (go_at_call 63; go_must (refine HF.out.mono ?_; rintro e w1 ⟨rfl, hb⟩; have HB := Lib.hid hb; clear hb))
  go_ret
  exact ⟨rfl, belowCall HB2.out HB.out⟩

/-- closed up to one of some names, that too -/
def untilF (T : TreeD) (names : List ByteArray) : List Int → List Int
  | [] => []
  | x :: r => if namedF T x names then r else untilF T names r
end
end Go.Proofs.Ytidbihdnginmcaa
