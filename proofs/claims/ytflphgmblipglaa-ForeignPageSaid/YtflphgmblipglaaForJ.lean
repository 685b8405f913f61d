/-
  The walks of ForeignBreaks, ForeignPoints, ForeignPage: each returns true; the world behind has new blocks alone.
-/
import Derived.Test.YtflphgmblipglaaForI
import Derived.Deep.RegionHeld3
import Derived.Deep.DeepCutAuto
namespace Go.Proofs.Ytflphgmblipglaa
open Go.RowKit Mem

/-- what stays in the drawn regions of these laws: the mark in its block, the attributes, all that was there -/
def Keep (w : World) (g : Nat) (xs : List Value) (a : Option Addr) (l : List Pair) (u : World) : Prop :=
  Below w.heap.size w u ∧ Row u g xs ∧ At u a (pairsV l)
theorem Keep.next {w : World} {g : Nat} {xs : List Value} {a : Option Addr} {l : List Pair} {u u' : World} (h : Keep w g xs a l u) (hb : Below u.heap.size u u') : Keep w g xs a l u' :=
  ⟨belowCall h.1 hb, h.2.1.below hb h.2.1.lt, h.2.2.below hb⟩
theorem Keep.drew {w : World} {g : Nat} {xs : List Value} {a : Option Addr} {l : List Pair} {u : World} (h : Keep w g xs a l u) : Keep w g xs a l u.drew :=
  h.next (Below.refl _ _).drew
theorem Keep.all {w : World} {g : Nat} {v0 v1 v2 v3 v4 : Value} {a : Option Addr} {l : List Pair} {u : World} (h : Keep w g [v0, v1, v2, v3, v4] a l u) :
    u.cell? ⟨g, 0, none⟩ = some v0 ∧ u.cell? ⟨g, 1, none⟩ = some v1 ∧ u.cell? ⟨g, 2, none⟩ = some v2 ∧ u.cell? ⟨g, 3, none⟩ = some v3 ∧ u.cell? ⟨g, 4, none⟩ = some v4 ∧ Keep w g [v0, v1, v2, v3, v4] a l u :=
  ⟨h.2.1.cell rfl, h.2.1.cell rfl, h.2.1.cell rfl, h.2.1.cell rfl, h.2.1.cell rfl, h⟩

theorem Keep.of {w : World} {g : Nat} {v0 v1 v2 v3 v4 : Value} {a : Option Addr} {l : List Pair} {u : World}
    (h : u.cell? ⟨g, 0, none⟩ = some v0 ∧ u.cell? ⟨g, 1, none⟩ = some v1 ∧ u.cell? ⟨g, 2, none⟩ = some v2 ∧ u.cell? ⟨g, 3, none⟩ = some v3 ∧ u.cell? ⟨g, 4, none⟩ = some v4 ∧ Keep w g [v0, v1, v2, v3, v4] a l u) :
    Keep w g [v0, v1, v2, v3, v4] a l u := h.2.2.2.2.2
theorem Keep.at {w : World} {g : Nat} {v0 v1 v2 v3 v4 : Value} {a : Option Addr} {l : List Pair} {u : World}
    (h : u.cell? ⟨g, 0, none⟩ = some v0 ∧ u.cell? ⟨g, 1, none⟩ = some v1 ∧ u.cell? ⟨g, 2, none⟩ = some v2 ∧ u.cell? ⟨g, 3, none⟩ = some v3 ∧ u.cell? ⟨g, 4, none⟩ = some v4 ∧ Keep w g [v0, v1, v2, v3, v4] a l u) :
    At u a (pairsV l) := (Keep.of h).2.2

section
variable (kind : Int) (name : ByteArray) (attrs : List Pair) (a : Option Addr) (c : Nat) (self : Bool) (text : ByteArray) (w : World)
set_option maxHeartbeats 1600000 in
theorem lawBreaks (hl : attrs.length ≤ maxLen) (ha : At w a (pairsV attrs)) :
    Calls Try.prog 4 #[markA kind name a attrs.length c self text] w fun e w' => e = .returned (.bool true) ∧ Below w.heap.size w w' := by
  have HA := Lib.hid ha
  clear ha
  go_enter Try.func4, Try.ntmps4
  go_wp2_with (go_at_call 14; refine (shown16_any _).mono ?_; rintro e w1 ⟨rfl, hb1⟩; have HK1 := Keep.all (Keep.next (w := w) (g := w.heap.size) (xs := [.int .i64 kind, .string name, .slice a attrs.length c, .bool self, .string text]) (a := a) (l := attrs) ⟨(Below.refl _ _).alloc (Nat.le_refl _) _, Row.alloc w _ _, HA.out.below ((Below.refl _ _).alloc (Nat.le_refl _) _)⟩ hb1); clear hb1; obtain ⟨m0, m1, m2, m3, m4, HK⟩ := HK1)
  go_region_held3 (fun u => u.cell? ⟨w.heap.size, 0, none⟩ = some (.int .i64 kind) ∧ u.cell? ⟨w.heap.size, 1, none⟩ = some (.string name) ∧ u.cell? ⟨w.heap.size, 2, none⟩ = some (.slice a attrs.length c) ∧ u.cell? ⟨w.heap.size, 3, none⟩ = some (.bool self) ∧ u.cell? ⟨w.heap.size, 4, none⟩ = some (.string text) ∧ Keep w w.heap.size [.int .i64 kind, .string name, .slice a attrs.length c, .bool self, .string text] a attrs u)
    (first | exact (Keep.drew HK).all | exact (Keep.next (Keep.of (w := w) (g := w.heap.size) (v0 := .int .i64 kind) (v1 := .string name) (v2 := .slice a attrs.length c) (v3 := .bool self) (v4 := .string text) (by assumption)) hbx).all)
    (first | (go_at_call 19; refine (breaks_any name attrs a c self text _ kind hl ?_).mono ?_; (exact Keep.at (w := w) (g := w.heap.size) (v0 := .int .i64 kind) (v1 := .string name) (v2 := .slice a attrs.length c) (v3 := .bool self) (v4 := .string text) (by assumption)); rintro e wx ⟨rfl, hbx⟩) | (go_at_call 20; refine (refBreaks_any name attrs a c self text _ kind hl ?_).mono ?_; (exact Keep.at (w := w) (g := w.heap.size) (v0 := .int .i64 kind) (v1 := .string name) (v2 := .slice a attrs.length c) (v3 := .bool self) (v4 := .string text) (by assumption)); rintro e wx ⟨rfl, hbx⟩))
  go_wp2
  go_ret
  exact ⟨rfl, (Keep.of (w := w) (g := w.heap.size) (v0 := .int .i64 kind) (v1 := .string name) (v2 := .slice a attrs.length c) (v3 := .bool self) (v4 := .string text) (by assumption)).1⟩
end

section
variable (space : Int) (name : ByteArray) (kind : Int) (mname : ByteArray) (attrs : List Pair) (a : Option Addr) (c : Nat) (self : Bool) (text : ByteArray) (w : World)
set_option maxHeartbeats 1600000 in
theorem lawPoints (hl : attrs.length ≤ maxLen) (hs : ∀ p ∈ attrs, p.2.size ≤ maxLen) (ha : At w a (pairsV attrs)) :
    Calls Try.prog 3 #[.int .i64 space, .string name, markA kind mname a attrs.length c self text] w fun e w' => e = .returned (.bool true) ∧ Below w.heap.size w w' := by
  have HA := Lib.hid ha
  clear ha
  go_enter Try.func3, Try.ntmps3
  go_wp2_with (go_at_call 14; refine (shown16_any _).mono ?_; rintro e w1 ⟨rfl, hb1⟩; have HK1 := Keep.all (Keep.next (w := w) (g := w.heap.size) (xs := [.int .i64 kind, .string mname, .slice a attrs.length c, .bool self, .string text]) (a := a) (l := attrs) ⟨(Below.refl _ _).alloc (Nat.le_refl _) _, Row.alloc w _ _, HA.out.below ((Below.refl _ _).alloc (Nat.le_refl _) _)⟩ hb1); clear hb1; obtain ⟨m0, m1, m2, m3, m4, HK⟩ := HK1)
  go_region_held3 (fun u => u.cell? ⟨w.heap.size, 0, none⟩ = some (.int .i64 kind) ∧ u.cell? ⟨w.heap.size, 1, none⟩ = some (.string mname) ∧ u.cell? ⟨w.heap.size, 2, none⟩ = some (.slice a attrs.length c) ∧ u.cell? ⟨w.heap.size, 3, none⟩ = some (.bool self) ∧ u.cell? ⟨w.heap.size, 4, none⟩ = some (.string text) ∧ Keep w w.heap.size [.int .i64 kind, .string mname, .slice a attrs.length c, .bool self, .string text] a attrs u)
    (first | exact (Keep.drew HK).all | exact (Keep.next (Keep.of (w := w) (g := w.heap.size) (v0 := .int .i64 kind) (v1 := .string mname) (v2 := .slice a attrs.length c) (v3 := .bool self) (v4 := .string text) (by assumption)) hbx).all)
    (first | (go_at_call_of 17 (Value.slice none 0 0); refine (foreign_any space name [] none 0 kind mname a attrs.length c self text _ (by decide) (by simp) (At.nil _ _)).mono ?_; rintro e wx ⟨rfl, hbx⟩) | (go_at_call_of 18 (Value.slice none 0 0); refine (refForeign_any space name [] none 0 kind mname a attrs.length c self text _ (by decide) (by simp) (At.nil _ _)).mono ?_; rintro e wx ⟨rfl, hbx⟩) | (go_at_call 17; refine (foreign_any space name attrs a c kind mname a attrs.length c self text _ hl hs ?_).mono ?_; (exact Keep.at (w := w) (g := w.heap.size) (v0 := .int .i64 kind) (v1 := .string mname) (v2 := .slice a attrs.length c) (v3 := .bool self) (v4 := .string text) (by assumption)); rintro e wx ⟨rfl, hbx⟩) | (go_at_call 18; refine (refForeign_any space name attrs a c kind mname a attrs.length c self text _ hl hs ?_).mono ?_; (exact Keep.at (w := w) (g := w.heap.size) (v0 := .int .i64 kind) (v1 := .string mname) (v2 := .slice a attrs.length c) (v3 := .bool self) (v4 := .string text) (by assumption)); rintro e wx ⟨rfl, hbx⟩) | (go_at_call 15; refine (point_any space name attrs a c _ hl (valueOf_size attrs _ hs) ?_).mono ?_; (exact Keep.at (w := w) (g := w.heap.size) (v0 := .int .i64 kind) (v1 := .string mname) (v2 := .slice a attrs.length c) (v3 := .bool self) (v4 := .string text) (by assumption)); rintro e wx ⟨rfl, hbx⟩) | (go_at_call 16; refine (refPoint_any space name attrs a c _ hl hs ?_).mono ?_; (exact Keep.at (w := w) (g := w.heap.size) (v0 := .int .i64 kind) (v1 := .string mname) (v2 := .slice a attrs.length c) (v3 := .bool self) (v4 := .string text) (by assumption)); rintro e wx ⟨rfl, hbx⟩))
  go_wp2
  go_ret
  exact ⟨rfl, (Keep.of (w := w) (g := w.heap.size) (v0 := .int .i64 kind) (v1 := .string mname) (v2 := .slice a attrs.length c) (v3 := .bool self) (v4 := .string text) (by assumption)).1⟩
end
end Go.Proofs.Ytflphgmblipglaa
