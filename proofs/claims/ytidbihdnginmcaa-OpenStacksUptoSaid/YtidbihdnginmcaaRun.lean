import Derived.Test.YtidbihdnginmcaaSide
import Derived.Test.YtidbihdnginmcaaOpenWZ
import Derived.Test.YtidbihdnginmcaaForH
import Derived.Deep.RegionHeld3
import Derived.Test.YtidbihdnginmcaaOpenVO
import Derived.Deep.Cut
import Derived.StillTactics
import Derived.Test.YtidbihdnginmcaaRfB
/-
  Contract: law 14's run: one step on both trees: both answer the same. No conditions beyond those that each lemma types.
-/
namespace Go.Proofs.Ytidbihdnginmcaa
open Go.RowKit Mem

noncomputable def opT (T : TreeD) (x : OpD) : TreeD :=
  if x.kind = 0 then (mkF T (elemN x.a x.s x.attrs)).1 else if x.kind = 1 then (likeF T x.a).1 else if x.kind = 2 then (putE T x.a x.b x.c).1 else if x.kind = 3 then (textE T x.a x.b x.s).1
  else if x.kind = 4 then (moveE T x.a x.b).1 else if x.kind = 5 then (takeE T x.a).1 else T

/-- the law's own blocks and more stay -/
theorem keeps_less {w0 a b : World} {L L' : Nat → Prop} (h : Keeps (Own w0 L') a b) (hL : ∀ k, L k → L' k) : Keeps (Own w0 L) a b := h.mono fun _ _ hx => ⟨hx.1, fun hl => hx.2 (hL _ hl)⟩

section
variable {w0 w : World} {B C B' C' tb rb : Nat} {T : TreeD} {L : Nat → Prop}

set_option maxRecDepth 100000 in
set_option maxHeartbeats 8000000 in
theorem run_2 (h : DT w0 B C tb rb T T L w) (xa xb xc : Int) (xs : ByteArray) (n : Nat) (aa : Option Addr) (ac : Nat)  :
    Calls Try.prog 12 #[.pointer (some ⟨tb, 0, none⟩), .pointer (some ⟨rb, 0, none⟩), .agg #[.int .i64 2, .int .i64 xa, .int .i64 xb, .int .i64 xc, .string xs, .slice aa n ac]] w fun e w' =>
      e = .returned (.bool true) ∧ DT w0 B C tb rb (putE T xa xb xc).1 (putE T xa xb xc).1 L w' ∧ Keeps (Own w0 L) w w' := by
  have hbx := (Below.refl w.heap.size w).alloc (Nat.le_refl _) (.cells #[.int .i64 2, .int .i64 xa, .int .i64 xb, .int .i64 xc, .string xs, .slice aa n ac] 31)
  have hd1 := h.lay hbx
  have hk1 : Keeps (Own w0 L) w (w.alloc (.cells #[.int .i64 2, .int .i64 xa, .int .i64 xb, .int .i64 xc, .string xs, .slice aa n ac] 31)) := Keeps.ofBelow hbx
  have hB := heap_alloc_new w (.cells #[.int .i64 2, .int .i64 xa, .int .i64 xb, .int .i64 xc, .string xs, .slice aa n ac] 31)
  have hL1 : (fun k => L k ∨ (w.heap.size ≤ k ∧ k < (w.alloc (.cells #[.int .i64 2, .int .i64 xa, .int .i64 xb, .int .i64 xc, .string xs, .slice aa n ac] 31)).heap.size)) w.heap.size := .inr ⟨Nat.le_refl _, by simp⟩
  go_enter Try.func12, Try.ntmps12
  go_wp2_with fail
  generalize w.alloc (.cells #[.int .i64 2, .int .i64 xa, .int .i64 xb, .int .i64 xc, .string xs, .slice aa n ac] 31) = w1 at *
  obtain ⟨⟨r0, r1, r2, r3, r4, r5⟩, _⟩ := cells6r hB
  obtain ⟨L1, hL1e⟩ : ∃ L1 : Nat → Prop, L1 = fun k => L k ∨ (w.heap.size ≤ k ∧ k < w1.heap.size) := ⟨_, rfl⟩
  rw [← hL1e] at hd1
  have HLL := Lib.hid (show ∀ k, L k → L1 k by rw [hL1e]; exact fun k hk => .inl hk)
  have HL1 := Lib.hid (show L1 w.heap.size by rw [hL1e]; exact hL1)
  have HK1 := Lib.hid hk1
  have HD1 := Lib.hid hd1
  clear h hbx hd1 hk1 hB hL1 hL1e
  have q1 : w1.drew.cell? ⟨w.heap.size, 1, none⟩ = some (.int .i64 xa) := r1
  have q2 : w1.drew.cell? ⟨w.heap.size, 2, none⟩ = some (.int .i64 xb) := r2
  have q3 : w1.drew.cell? ⟨w.heap.size, 3, none⟩ = some (.int .i64 xc) := r3
  have E1 := Lib.hid (HD1.out.world ((Below.refl _ w1).drew))
  go_region_held3 (fun u => u.cell? ⟨w.heap.size, 1, none⟩ = some (.int .i64 xa) ∧ u.cell? ⟨w.heap.size, 2, none⟩ = some (.int .i64 xb) ∧ u.cell? ⟨w.heap.size, 3, none⟩ = some (.int .i64 xc))
    (first | exact ⟨q1, q2, q3⟩ | exact ⟨u1, u2, u3⟩ | exact ⟨v1, v2, v3⟩)
    (first
    | (go_at_call 46; refine (Put_da E2.out xa xb xc).mono ?_; rintro e w3 ⟨rfl, h3, k3⟩; have v1 := own_cell k3 HL1.out u1; have v2 := own_cell k3 HL1.out u2; have v3 := own_cell k3 HL1.out u3; have E3 := Lib.hid h3; have K3 := Lib.hid k3; clear h3 k3)
    | (go_at_call 46; refine (Put_da E1.out xa xb xc).mono ?_; rintro e w2 ⟨rfl, h2, k2⟩; have u1 := own_cell k2 HL1.out q1; have u2 := own_cell k2 HL1.out q2; have u3 := own_cell k2 HL1.out q3; have E2 := Lib.hid h2; have K2 := Lib.hid k2; clear h2 k2)
    | (go_at_call 52; refine (Put_db E2.out xa xb xc).mono ?_; rintro e w3 ⟨rfl, h3, k3⟩; have v1 := own_cell k3 HL1.out u1; have v2 := own_cell k3 HL1.out u2; have v3 := own_cell k3 HL1.out u3; have E3 := Lib.hid h3; have K3 := Lib.hid k3; clear h3 k3)
    | (go_at_call 52; refine (Put_db E1.out xa xb xc).mono ?_; rintro e w2 ⟨rfl, h2, k2⟩; have u1 := own_cell k2 HL1.out q1; have u2 := own_cell k2 HL1.out q2; have u3 := own_cell k2 HL1.out q3; have E2 := Lib.hid h2; have K2 := Lib.hid k2; clear h2 k2))
  all_goals
    go_wp2_with fail
    go_ret
    exact ⟨rfl, E3.out.less HLL.out, keeps_less ((HK1.out.trans (keeps_less ((Keeps.refl (Own w0 L1) w1).drew.trans (K2.out.trans K3.out)) HLL.out))) fun _ h => h⟩

set_option maxRecDepth 100000 in
set_option maxHeartbeats 8000000 in
theorem run_3 (h : DT w0 B C tb rb T T L w) (xa xb xc : Int) (xs : ByteArray) (n : Nat) (aa : Option Addr) (ac : Nat)  (hBB : B + xs.size ≤ B') (hMB : B' ≤ 9223372036854775807) (hBC : C + xs.size ≤ C') (hMC : C' ≤ 9223372036854775807) :
    Calls Try.prog 12 #[.pointer (some ⟨tb, 0, none⟩), .pointer (some ⟨rb, 0, none⟩), .agg #[.int .i64 3, .int .i64 xa, .int .i64 xb, .int .i64 xc, .string xs, .slice aa n ac]] w fun e w' =>
      e = .returned (.bool true) ∧ DT w0 B' C' tb rb (textE T xa xb xs).1 (textE T xa xb xs).1 L w' ∧ Keeps (Own w0 L) w w' := by
  have hbx := (Below.refl w.heap.size w).alloc (Nat.le_refl _) (.cells #[.int .i64 3, .int .i64 xa, .int .i64 xb, .int .i64 xc, .string xs, .slice aa n ac] 31)
  have hd1 := h.lay hbx
  have hk1 : Keeps (Own w0 L) w (w.alloc (.cells #[.int .i64 3, .int .i64 xa, .int .i64 xb, .int .i64 xc, .string xs, .slice aa n ac] 31)) := Keeps.ofBelow hbx
  have hB := heap_alloc_new w (.cells #[.int .i64 3, .int .i64 xa, .int .i64 xb, .int .i64 xc, .string xs, .slice aa n ac] 31)
  have hL1 : (fun k => L k ∨ (w.heap.size ≤ k ∧ k < (w.alloc (.cells #[.int .i64 3, .int .i64 xa, .int .i64 xb, .int .i64 xc, .string xs, .slice aa n ac] 31)).heap.size)) w.heap.size := .inr ⟨Nat.le_refl _, by simp⟩
  go_enter Try.func12, Try.ntmps12
  go_wp2_with fail
  generalize w.alloc (.cells #[.int .i64 3, .int .i64 xa, .int .i64 xb, .int .i64 xc, .string xs, .slice aa n ac] 31) = w1 at *
  obtain ⟨⟨r0, r1, r2, r3, r4, r5⟩, _⟩ := cells6r hB
  obtain ⟨L1, hL1e⟩ : ∃ L1 : Nat → Prop, L1 = fun k => L k ∨ (w.heap.size ≤ k ∧ k < w1.heap.size) := ⟨_, rfl⟩
  rw [← hL1e] at hd1
  have HLL := Lib.hid (show ∀ k, L k → L1 k by rw [hL1e]; exact fun k hk => .inl hk)
  have HL1 := Lib.hid (show L1 w.heap.size by rw [hL1e]; exact hL1)
  have HK1 := Lib.hid hk1
  have HD1 := Lib.hid hd1
  clear h hbx hd1 hk1 hB hL1 hL1e
  have q1 : w1.drew.cell? ⟨w.heap.size, 1, none⟩ = some (.int .i64 xa) := r1
  have q2 : w1.drew.cell? ⟨w.heap.size, 2, none⟩ = some (.int .i64 xb) := r2
  have q4 : w1.drew.cell? ⟨w.heap.size, 4, none⟩ = some (.string xs) := r4
  have E1 := Lib.hid (HD1.out.world ((Below.refl _ w1).drew))
  go_region_held3 (fun u => u.cell? ⟨w.heap.size, 1, none⟩ = some (.int .i64 xa) ∧ u.cell? ⟨w.heap.size, 2, none⟩ = some (.int .i64 xb) ∧ u.cell? ⟨w.heap.size, 4, none⟩ = some (.string xs))
    (first | exact ⟨q1, q2, q4⟩ | exact ⟨u1, u2, u4⟩ | exact ⟨v1, v2, v4⟩)
    (first
    | (go_at_call 47; refine (Text_da E2.out xa xb xs (B' := B') hBB hMB).mono ?_; rintro e w3 ⟨rfl, h3, k3⟩; have v1 := own_cell k3 HL1.out u1; have v2 := own_cell k3 HL1.out u2; have v4 := own_cell k3 HL1.out u4; have E3 := Lib.hid h3; have K3 := Lib.hid k3; clear h3 k3)
    | (go_at_call 47; refine (Text_da E1.out xa xb xs (B' := B') hBB hMB).mono ?_; rintro e w2 ⟨rfl, h2, k2⟩; have u1 := own_cell k2 HL1.out q1; have u2 := own_cell k2 HL1.out q2; have u4 := own_cell k2 HL1.out q4; have E2 := Lib.hid h2; have K2 := Lib.hid k2; clear h2 k2)
    | (go_at_call 53; refine (Text_db E2.out xa xb xs (B' := C') hBC hMC).mono ?_; rintro e w3 ⟨rfl, h3, k3⟩; have v1 := own_cell k3 HL1.out u1; have v2 := own_cell k3 HL1.out u2; have v4 := own_cell k3 HL1.out u4; have E3 := Lib.hid h3; have K3 := Lib.hid k3; clear h3 k3)
    | (go_at_call 53; refine (Text_db E1.out xa xb xs (B' := C') hBC hMC).mono ?_; rintro e w2 ⟨rfl, h2, k2⟩; have u1 := own_cell k2 HL1.out q1; have u2 := own_cell k2 HL1.out q2; have u4 := own_cell k2 HL1.out q4; have E2 := Lib.hid h2; have K2 := Lib.hid k2; clear h2 k2))
  all_goals
    go_wp2_with fail
    go_ret
    exact ⟨rfl, E3.out.less HLL.out, keeps_less ((HK1.out.trans (keeps_less ((Keeps.refl (Own w0 L1) w1).drew.trans (K2.out.trans K3.out)) HLL.out))) fun _ h => h⟩

set_option maxRecDepth 100000 in
set_option maxHeartbeats 8000000 in
theorem run_4 (h : DT w0 B C tb rb T T L w) (xa xb xc : Int) (xs : ByteArray) (n : Nat) (aa : Option Addr) (ac : Nat)  :
    Calls Try.prog 12 #[.pointer (some ⟨tb, 0, none⟩), .pointer (some ⟨rb, 0, none⟩), .agg #[.int .i64 4, .int .i64 xa, .int .i64 xb, .int .i64 xc, .string xs, .slice aa n ac]] w fun e w' =>
      e = .returned (.bool true) ∧ DT w0 B C tb rb (moveE T xa xb).1 (moveE T xa xb).1 L w' ∧ Keeps (Own w0 L) w w' := by
  have hbx := (Below.refl w.heap.size w).alloc (Nat.le_refl _) (.cells #[.int .i64 4, .int .i64 xa, .int .i64 xb, .int .i64 xc, .string xs, .slice aa n ac] 31)
  have hd1 := h.lay hbx
  have hk1 : Keeps (Own w0 L) w (w.alloc (.cells #[.int .i64 4, .int .i64 xa, .int .i64 xb, .int .i64 xc, .string xs, .slice aa n ac] 31)) := Keeps.ofBelow hbx
  have hB := heap_alloc_new w (.cells #[.int .i64 4, .int .i64 xa, .int .i64 xb, .int .i64 xc, .string xs, .slice aa n ac] 31)
  have hL1 : (fun k => L k ∨ (w.heap.size ≤ k ∧ k < (w.alloc (.cells #[.int .i64 4, .int .i64 xa, .int .i64 xb, .int .i64 xc, .string xs, .slice aa n ac] 31)).heap.size)) w.heap.size := .inr ⟨Nat.le_refl _, by simp⟩
  go_enter Try.func12, Try.ntmps12
  go_wp2_with fail
  generalize w.alloc (.cells #[.int .i64 4, .int .i64 xa, .int .i64 xb, .int .i64 xc, .string xs, .slice aa n ac] 31) = w1 at *
  obtain ⟨⟨r0, r1, r2, r3, r4, r5⟩, _⟩ := cells6r hB
  obtain ⟨L1, hL1e⟩ : ∃ L1 : Nat → Prop, L1 = fun k => L k ∨ (w.heap.size ≤ k ∧ k < w1.heap.size) := ⟨_, rfl⟩
  rw [← hL1e] at hd1
  have HLL := Lib.hid (show ∀ k, L k → L1 k by rw [hL1e]; exact fun k hk => .inl hk)
  have HL1 := Lib.hid (show L1 w.heap.size by rw [hL1e]; exact hL1)
  have HK1 := Lib.hid hk1
  have HD1 := Lib.hid hd1
  clear h hbx hd1 hk1 hB hL1 hL1e
  have q1 : w1.drew.cell? ⟨w.heap.size, 1, none⟩ = some (.int .i64 xa) := r1
  have q2 : w1.drew.cell? ⟨w.heap.size, 2, none⟩ = some (.int .i64 xb) := r2
  have E1 := Lib.hid (HD1.out.world ((Below.refl _ w1).drew))
  go_region_held3 (fun u => u.cell? ⟨w.heap.size, 1, none⟩ = some (.int .i64 xa) ∧ u.cell? ⟨w.heap.size, 2, none⟩ = some (.int .i64 xb))
    (first | exact ⟨q1, q2⟩ | exact ⟨u1, u2⟩ | exact ⟨v1, v2⟩)
    (first
    | (go_at_call 15; refine (Move_da E2.out xa xb).mono ?_; rintro e w3 ⟨rfl, h3, k3⟩; have v1 := own_cell k3 HL1.out u1; have v2 := own_cell k3 HL1.out u2; have E3 := Lib.hid h3; have K3 := Lib.hid k3; clear h3 k3)
    | (go_at_call 15; refine (Move_da E1.out xa xb).mono ?_; rintro e w2 ⟨rfl, h2, k2⟩; have u1 := own_cell k2 HL1.out q1; have u2 := own_cell k2 HL1.out q2; have E2 := Lib.hid h2; have K2 := Lib.hid k2; clear h2 k2)
    | (go_at_call 54; refine (Move_db E2.out xa xb).mono ?_; rintro e w3 ⟨rfl, h3, k3⟩; have v1 := own_cell k3 HL1.out u1; have v2 := own_cell k3 HL1.out u2; have E3 := Lib.hid h3; have K3 := Lib.hid k3; clear h3 k3)
    | (go_at_call 54; refine (Move_db E1.out xa xb).mono ?_; rintro e w2 ⟨rfl, h2, k2⟩; have u1 := own_cell k2 HL1.out q1; have u2 := own_cell k2 HL1.out q2; have E2 := Lib.hid h2; have K2 := Lib.hid k2; clear h2 k2))
  all_goals
    go_wp2_with fail
    go_ret
    exact ⟨rfl, E3.out.less HLL.out, keeps_less ((HK1.out.trans (keeps_less ((Keeps.refl (Own w0 L1) w1).drew.trans (K2.out.trans K3.out)) HLL.out))) fun _ h => h⟩

set_option maxRecDepth 100000 in
set_option maxHeartbeats 8000000 in
theorem run_5 (h : DT w0 B C tb rb T T L w) (xa xb xc : Int) (xs : ByteArray) (n : Nat) (aa : Option Addr) (ac : Nat)  :
    Calls Try.prog 12 #[.pointer (some ⟨tb, 0, none⟩), .pointer (some ⟨rb, 0, none⟩), .agg #[.int .i64 5, .int .i64 xa, .int .i64 xb, .int .i64 xc, .string xs, .slice aa n ac]] w fun e w' =>
      e = .returned (.bool true) ∧ DT w0 B C tb rb (takeE T xa).1 (takeE T xa).1 L w' ∧ Keeps (Own w0 L) w w' := by
  have hbx := (Below.refl w.heap.size w).alloc (Nat.le_refl _) (.cells #[.int .i64 5, .int .i64 xa, .int .i64 xb, .int .i64 xc, .string xs, .slice aa n ac] 31)
  have hd1 := h.lay hbx
  have hk1 : Keeps (Own w0 L) w (w.alloc (.cells #[.int .i64 5, .int .i64 xa, .int .i64 xb, .int .i64 xc, .string xs, .slice aa n ac] 31)) := Keeps.ofBelow hbx
  have hB := heap_alloc_new w (.cells #[.int .i64 5, .int .i64 xa, .int .i64 xb, .int .i64 xc, .string xs, .slice aa n ac] 31)
  have hL1 : (fun k => L k ∨ (w.heap.size ≤ k ∧ k < (w.alloc (.cells #[.int .i64 5, .int .i64 xa, .int .i64 xb, .int .i64 xc, .string xs, .slice aa n ac] 31)).heap.size)) w.heap.size := .inr ⟨Nat.le_refl _, by simp⟩
  go_enter Try.func12, Try.ntmps12
  go_wp2_with fail
  generalize w.alloc (.cells #[.int .i64 5, .int .i64 xa, .int .i64 xb, .int .i64 xc, .string xs, .slice aa n ac] 31) = w1 at *
  obtain ⟨⟨r0, r1, r2, r3, r4, r5⟩, _⟩ := cells6r hB
  obtain ⟨L1, hL1e⟩ : ∃ L1 : Nat → Prop, L1 = fun k => L k ∨ (w.heap.size ≤ k ∧ k < w1.heap.size) := ⟨_, rfl⟩
  rw [← hL1e] at hd1
  have HLL := Lib.hid (show ∀ k, L k → L1 k by rw [hL1e]; exact fun k hk => .inl hk)
  have HL1 := Lib.hid (show L1 w.heap.size by rw [hL1e]; exact hL1)
  have HK1 := Lib.hid hk1
  have HD1 := Lib.hid hd1
  clear h hbx hd1 hk1 hB hL1 hL1e
  have q1 : w1.drew.cell? ⟨w.heap.size, 1, none⟩ = some (.int .i64 xa) := r1
  have E1 := Lib.hid (HD1.out.world ((Below.refl _ w1).drew))
  go_region_held3 (fun u => u.cell? ⟨w.heap.size, 1, none⟩ = some (.int .i64 xa))
    (first | exact q1 | exact u1 | exact v1)
    (first
    | (go_at_call 18; refine (Take_da E2.out xa).mono ?_; rintro e w3 ⟨rfl, h3, k3⟩; have v1 := own_cell k3 HL1.out u1; have E3 := Lib.hid h3; have K3 := Lib.hid k3; clear h3 k3)
    | (go_at_call 18; refine (Take_da E1.out xa).mono ?_; rintro e w2 ⟨rfl, h2, k2⟩; have u1 := own_cell k2 HL1.out q1; have E2 := Lib.hid h2; have K2 := Lib.hid k2; clear h2 k2)
    | (go_at_call 55; refine (Take_db E2.out xa).mono ?_; rintro e w3 ⟨rfl, h3, k3⟩; have v1 := own_cell k3 HL1.out u1; have E3 := Lib.hid h3; have K3 := Lib.hid k3; clear h3 k3)
    | (go_at_call 55; refine (Take_db E1.out xa).mono ?_; rintro e w2 ⟨rfl, h2, k2⟩; have u1 := own_cell k2 HL1.out q1; have E2 := Lib.hid h2; have K2 := Lib.hid k2; clear h2 k2))
  all_goals
    go_wp2_with fail
    go_ret
    exact ⟨rfl, E3.out.less HLL.out, keeps_less ((HK1.out.trans (keeps_less ((Keeps.refl (Own w0 L1) w1).drew.trans (K2.out.trans K3.out)) HLL.out))) fun _ h => h⟩

end
end Go.Proofs.Ytidbihdnginmcaa

/-
  Contract: law 14's run: one step on both trees, the other kinds; and the whole. No conditions beyond those that each lemma types.
-/
namespace Go.Proofs.Ytidbihdnginmcaa
open Go.RowKit Mem

section
variable {w0 w : World} {B C B' C' tb rb : Nat} {T : TreeD} {L : Nat → Prop}

set_option maxRecDepth 100000 in
set_option maxHeartbeats 8000000 in
theorem run_1 (h : DT w0 B C tb rb T T L w) (xa xb xc : Int) (xs : ByteArray) (n : Nat) (aa : Option Addr) (ac : Nat) :
    Calls Try.prog 12 #[.pointer (some ⟨tb, 0, none⟩), .pointer (some ⟨rb, 0, none⟩), .agg #[.int .i64 1, .int .i64 xa, .int .i64 xb, .int .i64 xc, .string xs, .slice aa n ac]] w fun e w' =>
      e = .returned (.bool true) ∧ DT w0 B C tb rb (likeF T xa).1 (likeF T xa).1 L w' ∧ Keeps (Own w0 L) w w' := by
  have hbx := (Below.refl w.heap.size w).alloc (Nat.le_refl _) (.cells #[.int .i64 1, .int .i64 xa, .int .i64 xb, .int .i64 xc, .string xs, .slice aa n ac] 31)
  have hd1 := h.lay hbx
  have hk1 : Keeps (Own w0 L) w (w.alloc (.cells #[.int .i64 1, .int .i64 xa, .int .i64 xb, .int .i64 xc, .string xs, .slice aa n ac] 31)) := Keeps.ofBelow hbx
  have hB := heap_alloc_new w (.cells #[.int .i64 1, .int .i64 xa, .int .i64 xb, .int .i64 xc, .string xs, .slice aa n ac] 31)
  have hL1 : (fun k => L k ∨ (w.heap.size ≤ k ∧ k < (w.alloc (.cells #[.int .i64 1, .int .i64 xa, .int .i64 xb, .int .i64 xc, .string xs, .slice aa n ac] 31)).heap.size)) w.heap.size := .inr ⟨Nat.le_refl _, by simp⟩
  go_enter Try.func12, Try.ntmps12
  go_wp2_with fail
  generalize w.alloc (.cells #[.int .i64 1, .int .i64 xa, .int .i64 xb, .int .i64 xc, .string xs, .slice aa n ac] 31) = w1 at *
  obtain ⟨⟨r0, r1, r2, r3, r4, r5⟩, _⟩ := cells6r hB
  obtain ⟨L1, hL1e⟩ : ∃ L1 : Nat → Prop, L1 = fun k => L k ∨ (w.heap.size ≤ k ∧ k < w1.heap.size) := ⟨_, rfl⟩
  rw [← hL1e] at hd1
  have HLL := Lib.hid (show ∀ k, L k → L1 k by rw [hL1e]; exact fun k hk => .inl hk)
  have HL1 := Lib.hid (show L1 w.heap.size by rw [hL1e]; exact hL1)
  have HK1 := Lib.hid hk1
  have HD1 := Lib.hid hd1
  clear h hbx hd1 hk1 hB hL1 hL1e
  refine (Like_da HD1.out xa).mono ?_
  rintro e w2 ⟨rfl, h2, k2⟩
  have u1 := own_cell k2 HL1.out r1
  have E2 := Lib.hid h2
  have K2 := Lib.hid k2
  clear h2 k2
  go_wp2_with fail
  refine (Like_db E2.out xa).mono ?_
  rintro e w3 ⟨rfl, h3, k3⟩
  have E3 := Lib.hid h3
  have K3 := Lib.hid k3
  clear h3 k3
  go_wp2_with fail
  go_ret
  exact ⟨rfl, E3.out.less HLL.out, HK1.out.trans (keeps_less (K2.out.trans K3.out) HLL.out)⟩

set_option maxRecDepth 100000 in
set_option maxHeartbeats 8000000 in
theorem run_other (h : DT w0 B C tb rb T T L w) (kd xa xb xc : Int) (xs : ByteArray) (n : Nat) (aa : Option Addr) (ac : Nat) (k0 : (kd == 0) = false) (k1 : (kd == 1) = false) (k2 : (kd == 2) = false) (k3 : (kd == 3) = false) (k4 : (kd == 4) = false) (k5 : (kd == 5) = false) :
    Calls Try.prog 12 #[.pointer (some ⟨tb, 0, none⟩), .pointer (some ⟨rb, 0, none⟩), .agg #[.int .i64 kd, .int .i64 xa, .int .i64 xb, .int .i64 xc, .string xs, .slice aa n ac]] w fun e w' =>
      e = .returned (.bool true) ∧ DT w0 B C tb rb T T L w' ∧ Keeps (Own w0 L) w w' := by
  have hbx := (Below.refl w.heap.size w).alloc (Nat.le_refl _) (.cells #[.int .i64 kd, .int .i64 xa, .int .i64 xb, .int .i64 xc, .string xs, .slice aa n ac] 31)
  have hd1 := h.world hbx
  go_enter Try.func12, Try.ntmps12
  go_wp2_with fail
  go_ret
  exact ⟨rfl, hd1, Keeps.ofBelow hbx⟩

theorem same_ref (l : List Pair) (a a' : Option Addr) (n m c c' : Nat) (w : World) (hn : n = l.length) (hm : m = l.length) (hl : l.length ≤ maxLen) (ha : At w a (pairsV l)) (ha' : At w a' (pairsV l)) :
    Calls Try.prog 49 #[.slice a n c, .slice a' m c'] w fun e w' => e = .returned (.bool true) ∧ Below w.heap.size w w' := by
  subst hn
  subst hm
  refine (sameAttrs_any l l a a' c c' w hl hl ha ha').mono ?_
  rintro e w' ⟨rfl, n, rfl⟩
  exact ⟨by rw [samePairs_self], drewN_below w n⟩
theorem own_left {w : World} {B : Nat} {e : TypeId} {s m n c : Nat} {a : Option Addr} {xs ys : List Value} (h : w.ownsRow B e s (.slice a m c) n (xs ++ ys)) : At w a xs := by
  obtain ⟨_, _, he, _, _, _, h4⟩ := own_at h
  cases he
  exact h4.left
theorem at_two {w : World} (x y : ByteArray) : At (w.alloc (.cells #[.string x, .string y] 81)) (some ⟨w.heap.size, 0, none⟩) (pairsV [(x, y)]) := at_alloc rfl rfl

set_option maxRecDepth 100000 in
set_option maxHeartbeats 8000000 in
theorem run_0 (h : DT w0 B C tb rb T T L w) (xa xb xc : Int) (xs : ByteArray) (l : List Pair) (aa : Option Addr) (ac : Nat) (hc : aa = none → ac = 0) (hlen : l.length ≤ 1048576) (ha : AtF (fun k => w0.heap.size ≤ k) w aa (pairsV l)) :
    Calls Try.prog 12 #[.pointer (some ⟨tb, 0, none⟩), .pointer (some ⟨rb, 0, none⟩), .agg #[.int .i64 0, .int .i64 xa, .int .i64 xb, .int .i64 xc, .string xs, .slice aa l.length ac]] w fun e w' =>
      e = .returned (.bool true) ∧ DT w0 B C tb rb (mkF T (elemN xa xs l)).1 (mkF T (elemN xa xs l)).1 L w' ∧ Keeps (Own w0 L) w w' := by
  have hlaw := h.law
  have HH := Lib.hid h
  have HBw := Lib.hid h.below
  have hbx := (Below.refl w.heap.size w).alloc (Nat.le_refl _) (.cells #[.int .i64 0, .int .i64 xa, .int .i64 xb, .int .i64 xc, .string xs, .slice aa l.length ac] 31)
  have hk1 : Keeps (Own w0 L) w (w.alloc (.cells #[.int .i64 0, .int .i64 xa, .int .i64 xb, .int .i64 xc, .string xs, .slice aa l.length ac] 31)) := Keeps.ofBelow hbx
  have hB := heap_alloc_new w (.cells #[.int .i64 0, .int .i64 xa, .int .i64 xb, .int .i64 xc, .string xs, .slice aa l.length ac] 31)
  have hs1 : (w.alloc (.cells #[.int .i64 0, .int .i64 xa, .int .i64 xb, .int .i64 xc, .string xs, .slice aa l.length ac] 31)).heap.size = w.heap.size + 1 := by simp
  go_enter Try.func12, Try.ntmps12
  go_upto_region 3 with (fail)
  generalize w.alloc (.cells #[.int .i64 0, .int .i64 xa, .int .i64 xb, .int .i64 xc, .string xs, .slice aa l.length ac] 31) = w1 at *
  obtain ⟨⟨r0, r1, r2, r3, r4, r5⟩, _⟩ := cells6r hB
  have HA := Lib.hid (ha.kept ((hk1.mono fun _ _ h => h.1) : Keeps (fun k => w0.heap.size ≤ k) w w1))
  have HC := Lib.hid hc
  have HLaw := Lib.hid hlaw
  have O1 : Hid ((w1.alloc (.cells #[] 81)).ownsRow w1.heap.size 81 2 (.slice (some ⟨w1.heap.size, 0, none⟩) 0 0) 0 []) := Lib.hid (World.ownsRow_lit w1 #[] 0 (Nat.le_refl _) (Nat.zero_le _) rfl)
  have hb2 := (Below.refl w1.heap.size w1).alloc (Nat.le_refl _) (.cells #[] 81)
  have A1 := Lib.hid (HA.out.at.below hb2)
  have B2 := Lib.hid hb2
  obtain ⟨i0, hi, hz0, hz1, hz2⟩ := info_parts info_atr
  have b0 : 0 + l.length ≤ maxLen := by unfold maxLen; omega
  have b1 : (0 + l.length) * 32 ≤ 140737488355328 := by omega
  have b2 : l.length + 1 ≤ maxLen := by unfold maxLen; omega
  have b3 : (l.length + 1) * 32 ≤ 140737488355328 := by omega
  have HNL := Lib.hid (pairsV_length l)
  have HZ := Lib.hid (show w1.heap.size ≤ (w1.alloc (.cells #[] 81)).heap.size by simp)
  have hb1 : Below w.heap.size w w1 := hbx
  have HS1 := Lib.hid hs1
  clear h hk1 hB hs1 hlaw ha hc hb2 hbx r0 r2 r3
  have r5' := cell_later B2.out r5
  go_upto_region 4 with (first
    | (at_builtin; (refine wpList_append_slice _ rfl (.tmp 22) (.tmp 24) 29 rfl w1.heap.size 81 i0 _ 2 32 Try.underlying29 hi hz0 hz1 hz2 rfl (by decide) _ 0 [] rfl O1.out aa l.length ac (pairsV l) rfl HNL.out HC.out A1.out (pairsV_one l) b0 b1 HZ.out ?_; intro v4 w4 hown4 hgr4; simp only [Nat.zero_add, List.nil_append] at hown4; have B4 := Lib.hid (B2.out.grown hgr4 HZ.out (fun b hb => (O1.out.lt b hb).1)); have O4 := Lib.hid (hown4.alloc (.cells #[.string ⟨#[33]⟩, .string ⟨#[]⟩] 81)); have Z4 := Lib.hid (show w1.heap.size ≤ (w4.alloc (.cells #[.string ⟨#[33]⟩, .string ⟨#[]⟩] 81)).heap.size from by have := B4.out.size; simp; omega); clear hown4 hgr4))
    | (at_builtin; (refine wpList_append_slice _ rfl (.tmp 25) (.tmp 27) 29 rfl w1.heap.size 81 i0 _ 2 32 Try.underlying29 hi hz0 hz1 hz2 rfl (by decide) _ l.length _ rfl O4.out (some ⟨w4.heap.size, 0, none⟩) 1 1 (pairsV [(⟨#[33]⟩, ⟨#[]⟩)]) rfl rfl (fun h => by cases h) (at_two _ _) (pairsV_one _) b2 b3 Z4.out ?_; intro v5 w5 hown5 hgr5; have B5 := Lib.hid ((B4.out.alloc B4.out.size _).grown hgr5 Z4.out (fun b hb => (O4.out.lt b hb).1)); have O5 := Lib.hid hown5; obtain ⟨g5, c5, rfl, hg5, k1, k2⟩ := own_some O5.out (by omega); clear hown5 hgr5)))
  have hs1 := HS1.out
  have hb5 : Below w.heap.size w w5 := hb1.trans (B5.out.mono (by omega))
  have HE5 := Lib.hid (HH.out.lay hb5)
  obtain ⟨L2, hL2⟩ : ∃ L2 : Nat → Prop, L2 = fun k => L k ∨ (w.heap.size ≤ k ∧ k < w5.heap.size) := ⟨_, rfl⟩
  rw [← hL2] at HE5
  have hlt5 := (O5.out.lt g5 rfl).2
  have HLx := Lib.hid (show L2 w.heap.size by rw [hL2]; exact .inr ⟨Nat.le_refl _, by have := B5.out.size; omega⟩)
  have HLg := Lib.hid (show L2 g5 by rw [hL2]; exact .inr ⟨by omega, hlt5⟩)
  have HLL := Lib.hid (show ∀ k, L k → L2 k by rw [hL2]; exact fun k hk => .inl hk)
  have HK5 : Hid (Keeps (Own w0 L) w w5) := Lib.hid (Keeps.ofBelow hb5)
  have HOg := Lib.hid (show Own w0 L g5 from ⟨by have := HBw.out.size; omega, fun hx => by have := (HLaw.out g5 hx).2; omega⟩)
  have HA5 := Lib.hid (HA.out.kept (Keeps.ofBelow B5.out))
  have q1 : w5.drew.cell? ⟨w.heap.size, 1, none⟩ = some (.int .i64 xa) := show w5.cell? _ = _ from cell_later B5.out r1
  have q4 : w5.drew.cell? ⟨w.heap.size, 4, none⟩ = some (.string xs) := show w5.cell? _ = _ from cell_later B5.out r4
  have q5 : w5.drew.cell? ⟨w.heap.size, 5, none⟩ = some (.slice aa l.length ac) := show w5.cell? _ = _ from cell_later B5.out r5
  have hd5 := (Below.refl w5.heap.size w5).drew
  have hAt : At w5.drew (some ⟨g5, 0, none⟩) (pairsV l) := (own_left O5.out).below hd5
  have HCL := Lib.hid (Elem_da (HE5.out.world hd5) xa xs l l.length (some ⟨g5, 0, none⟩) c5 rfl (fun h => by cases h) hlen hAt)
  have hc1 : (l.length : Int) ≤ (c5 : Int) := by omega
  have hc2 : l.length ≤ c5 := by omega
  unfold maxLen at k2
  clear hs1 hL2 hb5 hAt r1 r4 r5 r5' A1 B2 O1 HZ b0 b1 b2 b3 hi hz0 hz1 hz2 B4 O4 Z4
  refine region_end 10 (by kernel_rfl) (by kernel_rfl) rfl ?_
  simp only [List.take_succ_cons, List.take_zero]
  repeat still_step
  refine wpStill_nil ?_
  intro K hK
  go_simp
  refine HCL.out.mono ?_
  rintro e w6 ⟨rfl, h6, k6⟩
  dsimp only
  refine hK _ _ ?_
  clear hK K
  simp only [List.drop_succ_cons, List.drop_zero]
  repeat still_step
  refine wpStill_nil ?_
  have u1 := own_cell k6 HLx.out q1
  have u4 := own_cell k6 HLx.out q4
  have u5 := own_cell k6 HLx.out q5
  have O6 : Hid (w6.ownsRow w1.heap.size 81 2 (.slice (some ⟨g5, 0, none⟩) (l.length + 1) c5) (l.length + 1) (pairsV l ++ pairsV [(⟨#[33]⟩, ⟨#[]⟩)])) := Lib.hid (own_kept O5.out fun k hk => by
    simp only [Value.ownBlock, Option.some.injEq] at hk
    subst hk
    exact k6.block g5 hlt5 fun hx => hx.2 HLg.out)
  have HA6 := Lib.hid (HA5.out.kept ((Keeps.ofBelow hd5).trans (k6.mono fun _ _ hx => hx.1)))
  have E6 := Lib.hid h6
  have K6 := Lib.hid (HK5.out.trans ((Keeps.ofBelow hd5).trans (keeps_less k6 HLL.out)))
  clear h6 k6 HCL q1 q4 q5 hd5 O5 HA5 HE5 HK5
  have HCR := Lib.hid (Elem_db E6.out xa xs l l.length aa ac rfl HC.out hlen HA6.out.at)
  go_wp2_with fail
  refine HCR.out.mono ?_
  rintro e w7 ⟨rfl, h7, k7⟩
  have v5 := own_cell k7 HLx.out u5
  have O7 : Hid (w7.ownsRow w1.heap.size 81 2 (.slice (some ⟨g5, 0, none⟩) (l.length + 1) c5) (l.length + 1) (pairsV l ++ pairsV [(⟨#[33]⟩, ⟨#[]⟩)])) := Lib.hid (own_kept O6.out fun k hk => by
    simp only [Value.ownBlock, Option.some.injEq] at hk
    subst hk
    exact k7.block g5 (O6.out.lt g5 rfl).2 fun hx => hx.2 HLg.out)
  have HA7 := Lib.hid (HA6.out.kept (k7.mono fun _ _ hx => hx.1))
  have E7 := Lib.hid h7
  have K7 := Lib.hid (K6.out.trans (keeps_less k7 HLL.out))
  have hAt7 : At w7 (some ⟨g5, 0, none⟩) (pairsV l) := own_left O7.out
  have HSM := Lib.hid (fun u (hu : Below w7.heap.size w7 u) => same_ref l (some ⟨g5, 0, none⟩) aa l.length l.length c5 ac u rfl rfl (by unfold maxLen; omega) (hAt7.below hu) (HA7.out.at.below hu))
  clear h7 k7 HCR u1 u4 u5 O6 HA6 E6 K6 hAt7 HA7
  go_wp2_with fail
  refine wp_region_calm (by kernel_rfl) (by kernel_rfl) ?_
  repeat
    with_reducible refine wpQuiet_step (fun K hK => ?_)
    first
      | (with_reducible apply calm_skip
         · rfl
         simp only [Act.put, List.setIfInBounds_toArray, List.set_cons_zero, List.set_cons_succ]
         refine hK _ ?_
         clear hK K)
      | (with_reducible apply calm_run
         · rfl
         · intro wq hC
           have zv5 := cell_later hC.out v5
           unfold Oper.quietAt
           go_simp
           first | done | (go_at_call 49; refine (HSM.out _ hC.out).mono ?_; rintro e wx ⟨rfl, hbx⟩; exact ⟨rfl, Lib.hid (belowCall hC.out hbx)⟩) | with_reducible rfl | rfl
         simp only [Act.put, List.setIfInBounds_toArray, List.set_cons_zero, List.set_cons_succ]
         refine hK _ ?_
         clear hK K)
  with_reducible refine wpQuiet_nil ?_
  intro wq HQ
  have zv5 := cell_later HQ.out v5
  have hO8 := own_below O7.out HQ.out
  rw [← pairsV_append] at hO8
  have HO8 := Lib.hid hO8
  have HE8 := Lib.hid (E7.out.world HQ.out)
  have HK8 := Lib.hid (K7.out.trans (Keeps.ofBelow HQ.out))
  have HLg2 := HLg
  clear hO8 O7 E7 K7 HSM zv5 v5
  go_wp2_with fail
  obtain ⟨wo, rfl⟩ : ∃ wo : World, wo = wq := ⟨_, rfl⟩
  go_loopw [13] (fun i wi => ∃ (m : Nat) (P : List Pair), m ≤ l.length + 1 ∧ i = .int .i64 m ∧ P.length = l.length + 1 ∧ wi.ownsRow w1.heap.size 81 2 (.slice (some ⟨g5, 0, none⟩) (l.length + 1) c5) (l.length + 1) (pairsV P) ∧ DT w0 B C tb rb (mkF T (elemN xa xs l)).1 (mkF T (elemN xa xs l)).1 L2 wi ∧ Keeps (Own w0 L) w wi) (fun i _ => l.length + 1 - (intOf i).toNat)
  case atStart => exact ⟨0, l ++ [(⟨#[33]⟩, ⟨#[]⟩)], Nat.zero_le _, rfl, by simp, HO8.out, HE8.out, HK8.out⟩
  case round =>
    obtain ⟨m, P, hm, rfl, hP, ho, hE, hK⟩ := hrel
    have HOi := Lib.hid ho
    have HPi := Lib.hid hP
    have HEi := Lib.hid hE
    have HKi := Lib.hid hK
    clear hP hE hK HO8 HE8 HK8
    by_cases hmt : m < l.length + 1
    · have hmL : m < P.length := by rw [HPi.out]; exact hmt
      have g1 := (own_row ho).cell (pairsV_get0 P m hmL)
      have g2 := (own_row ho).cell (pairsV_get1 P m hmL)
      have f1 : wr.frozen? ⟨g5, m * 2, none⟩ = false := ho.frozenAt _
      have f2 : wr.frozen? ⟨g5, m * 2 + 1, none⟩ = false := ho.frozenAt _
      clear ho
      go_wp2_with fail
      go_roundw
      case rel =>
        refine ⟨m + 1, P.set m (⟨#[63]⟩, ⟨#[]⟩), by omega, by go_num, by rw [List.length_set]; exact HPi.out, ?_, ?_, ?_⟩
        · rw [← pairsV_set]
          exact ((HOi.out.stored (m * 2) _).1.stored (m * 2 + 1) _).1
        · exact HEi.out.write (((Keeps.refl L2 wr).set (p := ⟨g5, m * 2, none⟩) (.inl HLg.out) _).set (p := ⟨g5, m * 2 + 1, none⟩) (.inl HLg.out) _)
        · exact (HKi.out.set (p := ⟨g5, m * 2, none⟩) (.inl HOg.out) _).set (p := ⟨g5, m * 2 + 1, none⟩) (.inl HOg.out) _
      case measure => simp [intOf]; omega
    · clear ho
      go_wp2_with fail
      go_ret
      exact ⟨rfl, HEi.out.less HLL.out, HKi.out⟩

/-- one step on both trees -/
theorem run_any (h : DT w0 B C tb rb T T L w) (x : OpD) (aa : Option Addr) (ac : Nat) (hc : aa = none → ac = 0) (hlen : x.attrs.length ≤ 1048576) (ha : AtF (fun k => w0.heap.size ≤ k) w aa (pairsV x.attrs)) (hBB : B + x.s.size ≤ B') (hMB : B' ≤ 9223372036854775807) (hBC : C + x.s.size ≤ C') (hMC : C' ≤ 9223372036854775807) :
    Calls Try.prog 12 #[.pointer (some ⟨tb, 0, none⟩), .pointer (some ⟨rb, 0, none⟩), .agg #[.int .i64 x.kind, .int .i64 x.a, .int .i64 x.b, .int .i64 x.c, .string x.s, .slice aa x.attrs.length ac]] w fun e w' =>
      e = .returned (.bool true) ∧ DT w0 B' C' tb rb (opT T x) (opT T x) L w' ∧ Keeps (Own w0 L) w w' := by
  have hB1 : B ≤ B' := by omega
  have hC1 : C ≤ C' := by omega
  by_cases k0 : x.kind = 0
  · rw [opT, if_pos k0, k0]
    exact (run_0 h x.a x.b x.c x.s x.attrs aa ac hc hlen ha).mono fun e w' ⟨h1, h2, h3⟩ => ⟨h1, h2.more hB1 hC1, h3⟩
  by_cases k1 : x.kind = 1
  · rw [opT, if_neg k0, if_pos k1, k1]
    exact (run_1 h x.a x.b x.c x.s _ aa ac).mono fun e w' ⟨h1, h2, h3⟩ => ⟨h1, h2.more hB1 hC1, h3⟩
  by_cases k2 : x.kind = 2
  · rw [opT, if_neg k0, if_neg k1, if_pos k2, k2]
    exact (run_2 h x.a x.b x.c x.s _ aa ac).mono fun e w' ⟨h1, h2, h3⟩ => ⟨h1, h2.more hB1 hC1, h3⟩
  by_cases k3 : x.kind = 3
  · rw [opT, if_neg k0, if_neg k1, if_neg k2, if_pos k3, k3]
    exact run_3 h x.a x.b x.c x.s _ aa ac hBB hMB hBC hMC
  by_cases k4 : x.kind = 4
  · rw [opT, if_neg k0, if_neg k1, if_neg k2, if_neg k3, if_pos k4, k4]
    exact (run_4 h x.a x.b x.c x.s _ aa ac).mono fun e w' ⟨h1, h2, h3⟩ => ⟨h1, h2.more hB1 hC1, h3⟩
  by_cases k5 : x.kind = 5
  · rw [opT, if_neg k0, if_neg k1, if_neg k2, if_neg k3, if_neg k4, if_pos k5, k5]
    exact (run_5 h x.a x.b x.c x.s _ aa ac).mono fun e w' ⟨h1, h2, h3⟩ => ⟨h1, h2.more hB1 hC1, h3⟩
  · rw [opT, if_neg k0, if_neg k1, if_neg k2, if_neg k3, if_neg k4, if_neg k5]
    exact (run_other h x.kind x.a x.b x.c x.s _ aa ac (by simpa using k0) (by simpa using k1) (by simpa using k2) (by simpa using k3) (by simpa using k4) (by simpa using k5)).mono fun e w' ⟨h1, h2, h3⟩ => ⟨h1, h2.more hB1 hC1, h3⟩
end
end Go.Proofs.Ytidbihdnginmcaa
