import Derived.Test.YtidbihdnginmcaaRstL
import Derived.Test.YtidbihdnginmcaaOpenVO
/-
  Law 14's act: one step on both stacks. No conditions beyond those that each lemma types.
-/
namespace Go.Proofs.Ytidbihdnginmcaa
open Go.RowKit Mem

theorem info_str1 : (Try.prog.info? 9).map (fun i => (i.zero, i.size, i.bytes)) = some (some (.string ⟨#[]⟩), 1, 16) := by kernel_rfl
theorem strsV_one (l : List ByteArray) : ∀ u ∈ strsV l, u.oneCell' = true := by
  intro u hu
  obtain ⟨x, _, rfl⟩ := List.mem_map.mp hu
  rfl
theorem cells4r {w : World} {B : Nat} {v0 v1 v2 v3 : Value} {t : TypeId} (h : w.heap[B]? = some (.cells #[v0, v1, v2, v3] t (0, 0))) :
    w.cell? ⟨B, 0, none⟩ = some v0 ∧ w.cell? ⟨B, 1, none⟩ = some v1 ∧ w.cell? ⟨B, 2, none⟩ = some v2 ∧ w.cell? ⟨B, 3, none⟩ = some v3 := by
  simp only [cell_of_row w B _ _ _ _ h]
  exact ⟨rfl, rfl, rfl, rfl⟩
/-- names[0], or nothing -/
def butF (l : List ByteArray) : ByteArray := l.headD ⟨#[]⟩

section
variable {w0 w : World} {B C tb rb sb qb : Nat} {T : TreeD} {l : List Int} {L : Nat → Prop}
set_option maxRecDepth 100000 in
theorem act_2 (h : DS w0 B C tb rb sb qb T T l l L w) (n m : Int) (names : List ByteArray) (aa : Option Addr) (ac : Nat) (hn : names.length ≤ 1048576) (hc : aa = none → ac = 0) (ha : At w aa (strsV names)) :
    Calls Try.prog 32 #[.pointer (some ⟨sb, 0, none⟩), .pointer (some ⟨qb, 0, none⟩), .agg #[.int .i64 2, .int .i64 n, .int .i64 m, .slice aa names.length ac]] w fun e w' =>
      e = .returned (.bool true) ∧ DS w0 B C tb rb sb qb T T (rmF l n) (rmF l n) L w' ∧ Keeps (Own w0 L) w w' := by
  have hB := heap_alloc_new w (.cells #[.int .i64 2, .int .i64 n, .int .i64 m, .slice aa names.length ac] 68)
  have hb1 := (Below.refl w.heap.size w).alloc (Nat.le_refl _) (.cells #[.int .i64 2, .int .i64 n, .int .i64 m, .slice aa names.length ac] 68)
  have hz1 : w.heap.size < (w.alloc (.cells #[.int .i64 2, .int .i64 n, .int .i64 m, .slice aa names.length ac] 68)).heap.size := by simp
  go_enter Try.func32, Try.ntmps32
  go_upto_region 1 with fail
  generalize w.alloc (.cells #[.int .i64 2, .int .i64 n, .int .i64 m, .slice aa names.length ac] 68) = w1 at *
  obtain ⟨r0, r1, r2, r3⟩ := cells4r hB
  have A1 := Lib.hid ((ha.below hb1).below ((Below.refl w1.heap.size w1).alloc (Nat.le_refl _) (.cells #[] 9)))
  have HE : Hid ((w1.alloc (.cells #[] 9)).ownsRow w1.heap.size 9 1 (.slice (some ⟨w1.heap.size, 0, none⟩) 0 0) 0 []) := World.ownsRow_lit w1 #[] 0 (Nat.le_refl _) (Nat.zero_le _) rfl
  have HC := Lib.hid hc
  obtain ⟨i0, hi, hz0, hz1', hz2⟩ := info_parts info_str1
  have b0 : 0 + names.length ≤ maxLen := by unfold maxLen; omega
  have b1 : (0 + names.length) * 16 ≤ 140737488355328 := by omega
  have HNL := Lib.hid (show (strsV names).length = names.length * 1 by rw [strsV_length, Nat.mul_one])
  have HZ : Hid (w1.heap.size ≤ (w1.alloc (.cells #[] 9)).heap.size) := by show _ ≤ _; simp
  have HB1 := Lib.hid hb1
  have HD := Lib.hid h
  have HZ1 := Lib.hid hz1
  have R0 := Lib.hid r0
  have R1 := Lib.hid r1
  have R2 := Lib.hid r2
  have B2 := Lib.hid ((Below.refl w1.heap.size w1).alloc (Nat.le_refl _) (.cells #[] 9))
  have r3' := cell_later B2.out r3
  clear h hb1 hB ha hc hz1 r0 r1 r2
  go_upto_region 2 with (at_builtin; go_must (refine wpList_append_slice _ rfl _ _ 51 rfl w1.heap.size 9 i0 _ 1 16 Try.underlying51 hi hz0 hz1' hz2 rfl (by decide) _ 0 [] rfl HE.out aa names.length ac (strsV names) rfl HNL.out HC.out A1.out (strsV_one names) b0 b1 HZ.out ?_; intro v2 w2 hown2 hgr2; simp only [Nat.zero_add, List.nil_append] at hown2; have HO2 := Lib.hid hown2; have HG2 := Lib.hid hgr2; clear hown2 hgr2))
  have hb3 : Below w1.heap.size w1 w2 := B2.out.grown HG2.out HZ.out (fun b hb => (HE.out.lt b hb).1)
  have hb4 : Below w.heap.size w w2 := HB1.out.trans (hb3.mono HB1.out.size)
  have E2 := HD.out.lay hb4
  have u0 := cell_later hb3 R0.out
  have u1 := cell_later hb3 R1.out
  have u2 := cell_later hb3 R2.out
  have K2 : Hid (Keeps (Own w0 L) w w2) := Lib.hid (Keeps.ofBelow hb4)
  obtain ⟨L2, hL2⟩ : ∃ L2 : Nat → Prop, L2 = fun k => L k ∨ (w.heap.size ≤ k ∧ k < w2.heap.size) := ⟨_, rfl⟩
  rw [← hL2] at E2
  have HLL := Lib.hid (show ∀ k, L k → L2 k by rw [hL2]; exact fun k hk => .inl hk)
  have HL2 := Lib.hid (show L2 w.heap.size by rw [hL2]; exact .inr ⟨Nat.le_refl _, Nat.lt_of_lt_of_le HZ1.out hb3.size⟩)
  have HE2 := Lib.hid E2
  obtain ⟨a3, c3, rfl, q1, q2, q3, q4⟩ := own_at HO2.out
  have HN : Hid (∀ b o s, a3 = some ⟨b, o, s⟩ → L2 b) := Lib.hid (by
    rintro b o s rfl
    obtain ⟨p1, p2⟩ := HO2.out.lt b rfl
    rw [hL2]
    exact .inr ⟨Nat.le_trans HB1.out.size p1, p2⟩)
  have Q4 := Lib.hid q4
  clear HO2 HG2 HE HZ HNL A1 HC B2 HB1 hb3 hb4 E2 R0 R1 R2 q1 q2 q3 q4 r3' hL2 HD HZ1
  rcases names with _ | ⟨x, r⟩
  · go_upto_region 5 with fail
    go_wp2_with (first
      | (go_at_call 69; refine (HE2.out.callP fun ex hs => Remove_si hs n).mono ?_; rintro e w3 ⟨rfl, h3, k3⟩; have v1 := own_cell k3 HL2.out u1; have E3 := Lib.hid h3; have K3 := Lib.hid k3; clear h3 k3)
      | (go_at_call 70; refine (E3.out.callD fun ex hs => Remove_rs hs n).mono ?_; rintro e w4 ⟨rfl, h4, k4⟩; have E4 := Lib.hid h4; have K4 := Lib.hid k4; clear h4 k4))
    go_ret
    exact ⟨rfl, E4.out.less HLL.out, K2.out.trans (keeps_less (K3.out.trans K4.out) HLL.out)⟩
  · obtain ⟨g3, o3, rfl⟩ := Q4.out.some_of (by simp [strsV])
    have x0 : w2.cell? ⟨g3, o3, none⟩ = some (.string x) := by simpa using Q4.out.get (j := 0) (u := .string x) (by simp [strsV])
    have hlen : (x :: r).length = r.length + 1 := rfl
    rw [hlen]
    generalize r.length = rn at *
    go_upto_region 5 with fail
    go_wp2_with (first
      | (go_at_call 69; refine (HE2.out.callP fun ex hs => Remove_si hs n).mono ?_; rintro e w3 ⟨rfl, h3, k3⟩; have v1 := own_cell k3 HL2.out u1; have E3 := Lib.hid h3; have K3 := Lib.hid k3; clear h3 k3)
      | (go_at_call 70; refine (E3.out.callD fun ex hs => Remove_rs hs n).mono ?_; rintro e w4 ⟨rfl, h4, k4⟩; have E4 := Lib.hid h4; have K4 := Lib.hid k4; clear h4 k4))
    go_ret
    exact ⟨rfl, E4.out.less HLL.out, K2.out.trans (keeps_less (K3.out.trans K4.out) HLL.out)⟩
set_option maxRecDepth 100000 in
theorem act_3 (h : DS w0 B C tb rb sb qb T T l l L w) (n m : Int) (names : List ByteArray) (aa : Option Addr) (ac : Nat) (hn : names.length ≤ 1048576) (hc : aa = none → ac = 0) (ha : At w aa (strsV names)) :
    Calls Try.prog 32 #[.pointer (some ⟨sb, 0, none⟩), .pointer (some ⟨qb, 0, none⟩), .agg #[.int .i64 3, .int .i64 n, .int .i64 m, .slice aa names.length ac]] w fun e w' =>
      e = .returned (.bool true) ∧ DS w0 B C tb rb sb qb T T (swapF l n m) (swapF l n m) L w' ∧ Keeps (Own w0 L) w w' := by
  have hB := heap_alloc_new w (.cells #[.int .i64 3, .int .i64 n, .int .i64 m, .slice aa names.length ac] 68)
  have hb1 := (Below.refl w.heap.size w).alloc (Nat.le_refl _) (.cells #[.int .i64 3, .int .i64 n, .int .i64 m, .slice aa names.length ac] 68)
  have hz1 : w.heap.size < (w.alloc (.cells #[.int .i64 3, .int .i64 n, .int .i64 m, .slice aa names.length ac] 68)).heap.size := by simp
  go_enter Try.func32, Try.ntmps32
  go_upto_region 1 with fail
  generalize w.alloc (.cells #[.int .i64 3, .int .i64 n, .int .i64 m, .slice aa names.length ac] 68) = w1 at *
  obtain ⟨r0, r1, r2, r3⟩ := cells4r hB
  have A1 := Lib.hid ((ha.below hb1).below ((Below.refl w1.heap.size w1).alloc (Nat.le_refl _) (.cells #[] 9)))
  have HE : Hid ((w1.alloc (.cells #[] 9)).ownsRow w1.heap.size 9 1 (.slice (some ⟨w1.heap.size, 0, none⟩) 0 0) 0 []) := World.ownsRow_lit w1 #[] 0 (Nat.le_refl _) (Nat.zero_le _) rfl
  have HC := Lib.hid hc
  obtain ⟨i0, hi, hz0, hz1', hz2⟩ := info_parts info_str1
  have b0 : 0 + names.length ≤ maxLen := by unfold maxLen; omega
  have b1 : (0 + names.length) * 16 ≤ 140737488355328 := by omega
  have HNL := Lib.hid (show (strsV names).length = names.length * 1 by rw [strsV_length, Nat.mul_one])
  have HZ : Hid (w1.heap.size ≤ (w1.alloc (.cells #[] 9)).heap.size) := by show _ ≤ _; simp
  have HB1 := Lib.hid hb1
  have HD := Lib.hid h
  have HZ1 := Lib.hid hz1
  have R0 := Lib.hid r0
  have R1 := Lib.hid r1
  have R2 := Lib.hid r2
  have B2 := Lib.hid ((Below.refl w1.heap.size w1).alloc (Nat.le_refl _) (.cells #[] 9))
  have r3' := cell_later B2.out r3
  clear h hb1 hB ha hc hz1 r0 r1 r2
  go_upto_region 2 with (at_builtin; go_must (refine wpList_append_slice _ rfl _ _ 51 rfl w1.heap.size 9 i0 _ 1 16 Try.underlying51 hi hz0 hz1' hz2 rfl (by decide) _ 0 [] rfl HE.out aa names.length ac (strsV names) rfl HNL.out HC.out A1.out (strsV_one names) b0 b1 HZ.out ?_; intro v2 w2 hown2 hgr2; simp only [Nat.zero_add, List.nil_append] at hown2; have HO2 := Lib.hid hown2; have HG2 := Lib.hid hgr2; clear hown2 hgr2))
  have hb3 : Below w1.heap.size w1 w2 := B2.out.grown HG2.out HZ.out (fun b hb => (HE.out.lt b hb).1)
  have hb4 : Below w.heap.size w w2 := HB1.out.trans (hb3.mono HB1.out.size)
  have E2 := HD.out.lay hb4
  have u0 := cell_later hb3 R0.out
  have u1 := cell_later hb3 R1.out
  have u2 := cell_later hb3 R2.out
  have K2 : Hid (Keeps (Own w0 L) w w2) := Lib.hid (Keeps.ofBelow hb4)
  obtain ⟨L2, hL2⟩ : ∃ L2 : Nat → Prop, L2 = fun k => L k ∨ (w.heap.size ≤ k ∧ k < w2.heap.size) := ⟨_, rfl⟩
  rw [← hL2] at E2
  have HLL := Lib.hid (show ∀ k, L k → L2 k by rw [hL2]; exact fun k hk => .inl hk)
  have HL2 := Lib.hid (show L2 w.heap.size by rw [hL2]; exact .inr ⟨Nat.le_refl _, Nat.lt_of_lt_of_le HZ1.out hb3.size⟩)
  have HE2 := Lib.hid E2
  obtain ⟨a3, c3, rfl, q1, q2, q3, q4⟩ := own_at HO2.out
  have HN : Hid (∀ b o s, a3 = some ⟨b, o, s⟩ → L2 b) := Lib.hid (by
    rintro b o s rfl
    obtain ⟨p1, p2⟩ := HO2.out.lt b rfl
    rw [hL2]
    exact .inr ⟨Nat.le_trans HB1.out.size p1, p2⟩)
  have Q4 := Lib.hid q4
  clear HO2 HG2 HE HZ HNL A1 HC B2 HB1 hb3 hb4 E2 R0 R1 R2 q1 q2 q3 q4 r3' hL2 HD HZ1
  rcases names with _ | ⟨x, r⟩
  · go_upto_region 5 with fail
    go_wp2_with (first
      | (go_at_call 71; refine (HE2.out.callP fun ex hs => Swap_si hs n m).mono ?_; rintro e w3 ⟨rfl, h3, k3⟩; have v1 := own_cell k3 HL2.out u1; have v2 := own_cell k3 HL2.out u2; have E3 := Lib.hid h3; have K3 := Lib.hid k3; clear h3 k3)
      | (go_at_call 72; refine (E3.out.callD fun ex hs => Swap_rs hs n m).mono ?_; rintro e w4 ⟨rfl, h4, k4⟩; have E4 := Lib.hid h4; have K4 := Lib.hid k4; clear h4 k4))
    go_ret
    exact ⟨rfl, E4.out.less HLL.out, K2.out.trans (keeps_less (K3.out.trans K4.out) HLL.out)⟩
  · obtain ⟨g3, o3, rfl⟩ := Q4.out.some_of (by simp [strsV])
    have x0 : w2.cell? ⟨g3, o3, none⟩ = some (.string x) := by simpa using Q4.out.get (j := 0) (u := .string x) (by simp [strsV])
    have hlen : (x :: r).length = r.length + 1 := rfl
    rw [hlen]
    generalize r.length = rn at *
    go_upto_region 5 with fail
    go_wp2_with (first
      | (go_at_call 71; refine (HE2.out.callP fun ex hs => Swap_si hs n m).mono ?_; rintro e w3 ⟨rfl, h3, k3⟩; have v1 := own_cell k3 HL2.out u1; have v2 := own_cell k3 HL2.out u2; have E3 := Lib.hid h3; have K3 := Lib.hid k3; clear h3 k3)
      | (go_at_call 72; refine (E3.out.callD fun ex hs => Swap_rs hs n m).mono ?_; rintro e w4 ⟨rfl, h4, k4⟩; have E4 := Lib.hid h4; have K4 := Lib.hid k4; clear h4 k4))
    go_ret
    exact ⟨rfl, E4.out.less HLL.out, K2.out.trans (keeps_less (K3.out.trans K4.out) HLL.out)⟩
set_option maxRecDepth 100000 in
theorem act_4 (h : DS w0 B C tb rb sb qb T T l l L w) (n m : Int) (names : List ByteArray) (aa : Option Addr) (ac : Nat) (hn : names.length ≤ 1048576) (hlt : l.length < 1000000) (hc : aa = none → ac = 0) (ha : At w aa (strsV names)) :
    Calls Try.prog 32 #[.pointer (some ⟨sb, 0, none⟩), .pointer (some ⟨qb, 0, none⟩), .agg #[.int .i64 4, .int .i64 n, .int .i64 m, .slice aa names.length ac]] w fun e w' =>
      e = .returned (.bool true) ∧ DS w0 B C tb rb sb qb T T (insF l n m) (insF l n m) L w' ∧ Keeps (Own w0 L) w w' := by
  have hB := heap_alloc_new w (.cells #[.int .i64 4, .int .i64 n, .int .i64 m, .slice aa names.length ac] 68)
  have hb1 := (Below.refl w.heap.size w).alloc (Nat.le_refl _) (.cells #[.int .i64 4, .int .i64 n, .int .i64 m, .slice aa names.length ac] 68)
  have hz1 : w.heap.size < (w.alloc (.cells #[.int .i64 4, .int .i64 n, .int .i64 m, .slice aa names.length ac] 68)).heap.size := by simp
  go_enter Try.func32, Try.ntmps32
  go_upto_region 1 with fail
  generalize w.alloc (.cells #[.int .i64 4, .int .i64 n, .int .i64 m, .slice aa names.length ac] 68) = w1 at *
  obtain ⟨r0, r1, r2, r3⟩ := cells4r hB
  have A1 := Lib.hid ((ha.below hb1).below ((Below.refl w1.heap.size w1).alloc (Nat.le_refl _) (.cells #[] 9)))
  have HE : Hid ((w1.alloc (.cells #[] 9)).ownsRow w1.heap.size 9 1 (.slice (some ⟨w1.heap.size, 0, none⟩) 0 0) 0 []) := World.ownsRow_lit w1 #[] 0 (Nat.le_refl _) (Nat.zero_le _) rfl
  have HC := Lib.hid hc
  obtain ⟨i0, hi, hz0, hz1', hz2⟩ := info_parts info_str1
  have b0 : 0 + names.length ≤ maxLen := by unfold maxLen; omega
  have b1 : (0 + names.length) * 16 ≤ 140737488355328 := by omega
  have HNL := Lib.hid (show (strsV names).length = names.length * 1 by rw [strsV_length, Nat.mul_one])
  have HZ : Hid (w1.heap.size ≤ (w1.alloc (.cells #[] 9)).heap.size) := by show _ ≤ _; simp
  have HB1 := Lib.hid hb1
  have HD := Lib.hid h
  have HZ1 := Lib.hid hz1
  have R0 := Lib.hid r0
  have R1 := Lib.hid r1
  have R2 := Lib.hid r2
  have B2 := Lib.hid ((Below.refl w1.heap.size w1).alloc (Nat.le_refl _) (.cells #[] 9))
  have r3' := cell_later B2.out r3
  clear h hb1 hB ha hc hz1 r0 r1 r2
  go_upto_region 2 with (at_builtin; go_must (refine wpList_append_slice _ rfl _ _ 51 rfl w1.heap.size 9 i0 _ 1 16 Try.underlying51 hi hz0 hz1' hz2 rfl (by decide) _ 0 [] rfl HE.out aa names.length ac (strsV names) rfl HNL.out HC.out A1.out (strsV_one names) b0 b1 HZ.out ?_; intro v2 w2 hown2 hgr2; simp only [Nat.zero_add, List.nil_append] at hown2; have HO2 := Lib.hid hown2; have HG2 := Lib.hid hgr2; clear hown2 hgr2))
  have hb3 : Below w1.heap.size w1 w2 := B2.out.grown HG2.out HZ.out (fun b hb => (HE.out.lt b hb).1)
  have hb4 : Below w.heap.size w w2 := HB1.out.trans (hb3.mono HB1.out.size)
  have E2 := HD.out.lay hb4
  have u0 := cell_later hb3 R0.out
  have u1 := cell_later hb3 R1.out
  have u2 := cell_later hb3 R2.out
  have K2 : Hid (Keeps (Own w0 L) w w2) := Lib.hid (Keeps.ofBelow hb4)
  obtain ⟨L2, hL2⟩ : ∃ L2 : Nat → Prop, L2 = fun k => L k ∨ (w.heap.size ≤ k ∧ k < w2.heap.size) := ⟨_, rfl⟩
  rw [← hL2] at E2
  have HLL := Lib.hid (show ∀ k, L k → L2 k by rw [hL2]; exact fun k hk => .inl hk)
  have HL2 := Lib.hid (show L2 w.heap.size by rw [hL2]; exact .inr ⟨Nat.le_refl _, Nat.lt_of_lt_of_le HZ1.out hb3.size⟩)
  have HE2 := Lib.hid E2
  obtain ⟨a3, c3, rfl, q1, q2, q3, q4⟩ := own_at HO2.out
  have HN : Hid (∀ b o s, a3 = some ⟨b, o, s⟩ → L2 b) := Lib.hid (by
    rintro b o s rfl
    obtain ⟨p1, p2⟩ := HO2.out.lt b rfl
    rw [hL2]
    exact .inr ⟨Nat.le_trans HB1.out.size p1, p2⟩)
  have Q4 := Lib.hid q4
  clear HO2 HG2 HE HZ HNL A1 HC B2 HB1 hb3 hb4 E2 R0 R1 R2 q1 q2 q3 q4 r3' hL2 HD HZ1
  rcases names with _ | ⟨x, r⟩
  · go_upto_region 5 with fail
    go_wp2_with (first
      | (go_at_call 73; refine (HE2.out.callP fun ex hs => Insert_si hs n m hlt).mono ?_; rintro e w3 ⟨rfl, h3, k3⟩; have v1 := own_cell k3 HL2.out u1; have v2 := own_cell k3 HL2.out u2; have E3 := Lib.hid h3; have K3 := Lib.hid k3; clear h3 k3)
      | (go_at_call 74; refine (E3.out.callD fun ex hs => Insert_rs hs n m hlt).mono ?_; rintro e w4 ⟨rfl, h4, k4⟩; have E4 := Lib.hid h4; have K4 := Lib.hid k4; clear h4 k4))
    go_ret
    exact ⟨rfl, E4.out.less HLL.out, K2.out.trans (keeps_less (K3.out.trans K4.out) HLL.out)⟩
  · obtain ⟨g3, o3, rfl⟩ := Q4.out.some_of (by simp [strsV])
    have x0 : w2.cell? ⟨g3, o3, none⟩ = some (.string x) := by simpa using Q4.out.get (j := 0) (u := .string x) (by simp [strsV])
    have hlen : (x :: r).length = r.length + 1 := rfl
    rw [hlen]
    generalize r.length = rn at *
    go_upto_region 5 with fail
    go_wp2_with (first
      | (go_at_call 73; refine (HE2.out.callP fun ex hs => Insert_si hs n m hlt).mono ?_; rintro e w3 ⟨rfl, h3, k3⟩; have v1 := own_cell k3 HL2.out u1; have v2 := own_cell k3 HL2.out u2; have E3 := Lib.hid h3; have K3 := Lib.hid k3; clear h3 k3)
      | (go_at_call 74; refine (E3.out.callD fun ex hs => Insert_rs hs n m hlt).mono ?_; rintro e w4 ⟨rfl, h4, k4⟩; have E4 := Lib.hid h4; have K4 := Lib.hid k4; clear h4 k4))
    go_ret
    exact ⟨rfl, E4.out.less HLL.out, K2.out.trans (keeps_less (K3.out.trans K4.out) HLL.out)⟩
set_option maxRecDepth 100000 in
theorem act_7 (h : DS w0 B C tb rb sb qb T T l l L w) (n m : Int) (names : List ByteArray) (aa : Option Addr) (ac : Nat) (hn : names.length ≤ 1048576) (hc : aa = none → ac = 0) (ha : At w aa (strsV names)) :
    Calls Try.prog 32 #[.pointer (some ⟨sb, 0, none⟩), .pointer (some ⟨qb, 0, none⟩), .agg #[.int .i64 7, .int .i64 n, .int .i64 m, .slice aa names.length ac]] w fun e w' =>
      e = .returned (.bool true) ∧ DS w0 B C tb rb sb qb T T (stImply T (butF names) l.reverse).reverse (stImply T (butF names) l.reverse).reverse L w' ∧ Keeps (Own w0 L) w w' := by
  have hB := heap_alloc_new w (.cells #[.int .i64 7, .int .i64 n, .int .i64 m, .slice aa names.length ac] 68)
  have hb1 := (Below.refl w.heap.size w).alloc (Nat.le_refl _) (.cells #[.int .i64 7, .int .i64 n, .int .i64 m, .slice aa names.length ac] 68)
  have hz1 : w.heap.size < (w.alloc (.cells #[.int .i64 7, .int .i64 n, .int .i64 m, .slice aa names.length ac] 68)).heap.size := by simp
  go_enter Try.func32, Try.ntmps32
  go_upto_region 1 with fail
  generalize w.alloc (.cells #[.int .i64 7, .int .i64 n, .int .i64 m, .slice aa names.length ac] 68) = w1 at *
  obtain ⟨r0, r1, r2, r3⟩ := cells4r hB
  have A1 := Lib.hid ((ha.below hb1).below ((Below.refl w1.heap.size w1).alloc (Nat.le_refl _) (.cells #[] 9)))
  have HE : Hid ((w1.alloc (.cells #[] 9)).ownsRow w1.heap.size 9 1 (.slice (some ⟨w1.heap.size, 0, none⟩) 0 0) 0 []) := World.ownsRow_lit w1 #[] 0 (Nat.le_refl _) (Nat.zero_le _) rfl
  have HC := Lib.hid hc
  obtain ⟨i0, hi, hz0, hz1', hz2⟩ := info_parts info_str1
  have b0 : 0 + names.length ≤ maxLen := by unfold maxLen; omega
  have b1 : (0 + names.length) * 16 ≤ 140737488355328 := by omega
  have HNL := Lib.hid (show (strsV names).length = names.length * 1 by rw [strsV_length, Nat.mul_one])
  have HZ : Hid (w1.heap.size ≤ (w1.alloc (.cells #[] 9)).heap.size) := by show _ ≤ _; simp
  have HB1 := Lib.hid hb1
  have HD := Lib.hid h
  have HZ1 := Lib.hid hz1
  have R0 := Lib.hid r0
  have R1 := Lib.hid r1
  have R2 := Lib.hid r2
  have B2 := Lib.hid ((Below.refl w1.heap.size w1).alloc (Nat.le_refl _) (.cells #[] 9))
  have r3' := cell_later B2.out r3
  clear h hb1 hB ha hc hz1 r0 r1 r2
  go_upto_region 2 with (at_builtin; go_must (refine wpList_append_slice _ rfl _ _ 51 rfl w1.heap.size 9 i0 _ 1 16 Try.underlying51 hi hz0 hz1' hz2 rfl (by decide) _ 0 [] rfl HE.out aa names.length ac (strsV names) rfl HNL.out HC.out A1.out (strsV_one names) b0 b1 HZ.out ?_; intro v2 w2 hown2 hgr2; simp only [Nat.zero_add, List.nil_append] at hown2; have HO2 := Lib.hid hown2; have HG2 := Lib.hid hgr2; clear hown2 hgr2))
  have hb3 : Below w1.heap.size w1 w2 := B2.out.grown HG2.out HZ.out (fun b hb => (HE.out.lt b hb).1)
  have hb4 : Below w.heap.size w w2 := HB1.out.trans (hb3.mono HB1.out.size)
  have E2 := HD.out.lay hb4
  have u0 := cell_later hb3 R0.out
  have u1 := cell_later hb3 R1.out
  have u2 := cell_later hb3 R2.out
  have K2 : Hid (Keeps (Own w0 L) w w2) := Lib.hid (Keeps.ofBelow hb4)
  obtain ⟨L2, hL2⟩ : ∃ L2 : Nat → Prop, L2 = fun k => L k ∨ (w.heap.size ≤ k ∧ k < w2.heap.size) := ⟨_, rfl⟩
  rw [← hL2] at E2
  have HLL := Lib.hid (show ∀ k, L k → L2 k by rw [hL2]; exact fun k hk => .inl hk)
  have HL2 := Lib.hid (show L2 w.heap.size by rw [hL2]; exact .inr ⟨Nat.le_refl _, Nat.lt_of_lt_of_le HZ1.out hb3.size⟩)
  have HE2 := Lib.hid E2
  obtain ⟨a3, c3, rfl, q1, q2, q3, q4⟩ := own_at HO2.out
  have HN : Hid (∀ b o s, a3 = some ⟨b, o, s⟩ → L2 b) := Lib.hid (by
    rintro b o s rfl
    obtain ⟨p1, p2⟩ := HO2.out.lt b rfl
    rw [hL2]
    exact .inr ⟨Nat.le_trans HB1.out.size p1, p2⟩)
  have Q4 := Lib.hid q4
  clear HO2 HG2 HE HZ HNL A1 HC B2 HB1 hb3 hb4 E2 R0 R1 R2 q1 q2 q3 q4 r3' hL2 HD HZ1
  rcases names with _ | ⟨x, r⟩
  · go_upto_region 5 with fail
    go_wp2_with (first
      | (go_at_call 78; refine (HE2.out.callP fun ex hs => Imply_si hs _).mono ?_; rintro e w3 ⟨rfl, h3, k3⟩; have v1 := own_cell k3 HL2.out u1; have E3 := Lib.hid h3; have K3 := Lib.hid k3; clear h3 k3)
      | (go_at_call 79; refine (E3.out.callD fun ex hs => Imply_rs hs _).mono ?_; rintro e w4 ⟨rfl, h4, k4⟩; have E4 := Lib.hid h4; have K4 := Lib.hid k4; clear h4 k4))
    go_ret
    exact ⟨rfl, E4.out.less HLL.out, K2.out.trans (keeps_less (K3.out.trans K4.out) HLL.out)⟩
  · obtain ⟨g3, o3, rfl⟩ := Q4.out.some_of (by simp [strsV])
    have x0 : w2.cell? ⟨g3, o3, none⟩ = some (.string x) := by simpa using Q4.out.get (j := 0) (u := .string x) (by simp [strsV])
    have hlen : (x :: r).length = r.length + 1 := rfl
    rw [hlen]
    generalize r.length = rn at *
    go_upto_region 5 with fail
    go_wp2_with (first
      | (go_at_call 78; refine (HE2.out.callP fun ex hs => Imply_si hs _).mono ?_; rintro e w3 ⟨rfl, h3, k3⟩; have v1 := own_cell k3 HL2.out u1; have E3 := Lib.hid h3; have K3 := Lib.hid k3; clear h3 k3)
      | (go_at_call 79; refine (E3.out.callD fun ex hs => Imply_rs hs _).mono ?_; rintro e w4 ⟨rfl, h4, k4⟩; have E4 := Lib.hid h4; have K4 := Lib.hid k4; clear h4 k4))
    go_ret
    exact ⟨rfl, E4.out.less HLL.out, K2.out.trans (keeps_less (K3.out.trans K4.out) HLL.out)⟩
end
end Go.Proofs.Ytidbihdnginmcaa

/-
  Law 14's act: Until and Clear. No conditions beyond those that each lemma types.
-/
namespace Go.Proofs.Ytidbihdnginmcaa
open Go.RowKit Mem

section
variable {w0 w : World} {B C tb rb sb qb : Nat} {T : TreeD} {l : List Int} {L : Nat → Prop}
set_option maxRecDepth 100000 in
theorem act_5 (h : DS w0 B C tb rb sb qb T T l l L w) (n m : Int) (names : List ByteArray) (aa : Option Addr) (ac : Nat) (hn : names.length ≤ 1048576) (hc : aa = none → ac = 0) (ha : At w aa (strsV names)) :
    Calls Try.prog 32 #[.pointer (some ⟨sb, 0, none⟩), .pointer (some ⟨qb, 0, none⟩), .agg #[.int .i64 5, .int .i64 n, .int .i64 m, .slice aa names.length ac]] w fun e w' =>
      e = .returned (.bool true) ∧ DS w0 B C tb rb sb qb T T (untilF T names l.reverse).reverse (untilF T names l.reverse).reverse L w' ∧ Keeps (Own w0 L) w w' := by
  have hB := heap_alloc_new w (.cells #[.int .i64 5, .int .i64 n, .int .i64 m, .slice aa names.length ac] 68)
  have hb1 := (Below.refl w.heap.size w).alloc (Nat.le_refl _) (.cells #[.int .i64 5, .int .i64 n, .int .i64 m, .slice aa names.length ac] 68)
  have hz1 : w.heap.size < (w.alloc (.cells #[.int .i64 5, .int .i64 n, .int .i64 m, .slice aa names.length ac] 68)).heap.size := by simp
  go_enter Try.func32, Try.ntmps32
  go_upto_region 1 with fail
  generalize w.alloc (.cells #[.int .i64 5, .int .i64 n, .int .i64 m, .slice aa names.length ac] 68) = w1 at *
  obtain ⟨r0, r1, r2, r3⟩ := cells4r hB
  have A1 := Lib.hid ((ha.below hb1).below ((Below.refl w1.heap.size w1).alloc (Nat.le_refl _) (.cells #[] 9)))
  have HE : Hid ((w1.alloc (.cells #[] 9)).ownsRow w1.heap.size 9 1 (.slice (some ⟨w1.heap.size, 0, none⟩) 0 0) 0 []) := World.ownsRow_lit w1 #[] 0 (Nat.le_refl _) (Nat.zero_le _) rfl
  have HC := Lib.hid hc
  obtain ⟨i0, hi, hz0, hz1', hz2⟩ := info_parts info_str1
  have b0 : 0 + names.length ≤ maxLen := by unfold maxLen; omega
  have b1 : (0 + names.length) * 16 ≤ 140737488355328 := by omega
  have HNL := Lib.hid (show (strsV names).length = names.length * 1 by rw [strsV_length, Nat.mul_one])
  have HZ : Hid (w1.heap.size ≤ (w1.alloc (.cells #[] 9)).heap.size) := by show _ ≤ _; simp
  have HB1 := Lib.hid hb1
  have HD := Lib.hid h
  have HZ1 := Lib.hid hz1
  have R0 := Lib.hid r0
  have R1 := Lib.hid r1
  have R2 := Lib.hid r2
  have B2 := Lib.hid ((Below.refl w1.heap.size w1).alloc (Nat.le_refl _) (.cells #[] 9))
  have r3' := cell_later B2.out r3
  clear h hb1 hB ha hc hz1 r0 r1 r2
  go_upto_region 2 with (at_builtin; go_must (refine wpList_append_slice _ rfl _ _ 51 rfl w1.heap.size 9 i0 _ 1 16 Try.underlying51 hi hz0 hz1' hz2 rfl (by decide) _ 0 [] rfl HE.out aa names.length ac (strsV names) rfl HNL.out HC.out A1.out (strsV_one names) b0 b1 HZ.out ?_; intro v2 w2 hown2 hgr2; simp only [Nat.zero_add, List.nil_append] at hown2; have HO2 := Lib.hid hown2; have HG2 := Lib.hid hgr2; clear hown2 hgr2))
  have hb3 : Below w1.heap.size w1 w2 := B2.out.grown HG2.out HZ.out (fun b hb => (HE.out.lt b hb).1)
  have hb4 : Below w.heap.size w w2 := HB1.out.trans (hb3.mono HB1.out.size)
  have E2 := HD.out.lay hb4
  have u0 := cell_later hb3 R0.out
  have u1 := cell_later hb3 R1.out
  have u2 := cell_later hb3 R2.out
  have K2 : Hid (Keeps (Own w0 L) w w2) := Lib.hid (Keeps.ofBelow hb4)
  obtain ⟨L2, hL2⟩ : ∃ L2 : Nat → Prop, L2 = fun k => L k ∨ (w.heap.size ≤ k ∧ k < w2.heap.size) := ⟨_, rfl⟩
  rw [← hL2] at E2
  have HLL := Lib.hid (show ∀ k, L k → L2 k by rw [hL2]; exact fun k hk => .inl hk)
  have HL2 := Lib.hid (show L2 w.heap.size by rw [hL2]; exact .inr ⟨Nat.le_refl _, Nat.lt_of_lt_of_le HZ1.out hb3.size⟩)
  have HE2 := Lib.hid E2
  obtain ⟨a3, c3, rfl, q1, q2, q3, q4⟩ := own_at HO2.out
  have HN : Hid (∀ b o s, a3 = some ⟨b, o, s⟩ → L2 b) := Lib.hid (by
    rintro b o s rfl
    obtain ⟨p1, p2⟩ := HO2.out.lt b rfl
    rw [hL2]
    exact .inr ⟨Nat.le_trans HB1.out.size p1, p2⟩)
  have Q4 := Lib.hid q4
  clear HO2 HG2 HE HZ HNL A1 HC B2 HB1 hb3 hb4 E2 R0 R1 R2 q1 q2 q3 q4 r3' hL2 HD HZ1
  rcases names with _ | ⟨x, r⟩
  · go_upto_region 5 with fail
    go_wp2_with (first
      | (go_at_call 30; refine (HE2.out.callP2 fun ex hx hs => Until_si hs _ _ c3 (AtF.of_new Q4.out fun b o s hb hw => hw.2 (hx b (HN.out b o s hb))) hn).mono ?_; rintro e w3 ⟨rfl, h3, k3⟩; have v1 := own_cell k3 HL2.out u1; have E3 := Lib.hid h3; have K3 := Lib.hid k3; clear h3 k3)
      | (go_at_call 75; refine (E3.out.callD2 fun ex hx hs => Until_rs hs _ _ c3 (AtF.of_new ((AtF.of_new (F := Own w0 L2) Q4.out fun b o s hb hw => hw.2 (HN.out b o s hb)).kept K3.out).at fun b o s hb hw => hw.2 (hx b (HN.out b o s hb))) hn).mono ?_; rintro e w4 ⟨rfl, h4, k4⟩; have E4 := Lib.hid h4; have K4 := Lib.hid k4; clear h4 k4))
    go_ret
    exact ⟨rfl, E4.out.less HLL.out, K2.out.trans (keeps_less (K3.out.trans K4.out) HLL.out)⟩
  · obtain ⟨g3, o3, rfl⟩ := Q4.out.some_of (by simp [strsV])
    have x0 : w2.cell? ⟨g3, o3, none⟩ = some (.string x) := by simpa using Q4.out.get (j := 0) (u := .string x) (by simp [strsV])
    have hlen : (x :: r).length = r.length + 1 := rfl
    rw [hlen]
    go_upto_region 5 with fail
    go_wp2_with (first
      | (go_at_call 30; refine (HE2.out.callP2 fun ex hx hs => Until_si hs _ _ c3 (AtF.of_new Q4.out fun b o s hb hw => hw.2 (hx b (HN.out b o s hb))) hn).mono ?_; rintro e w3 ⟨rfl, h3, k3⟩; have v1 := own_cell k3 HL2.out u1; have E3 := Lib.hid h3; have K3 := Lib.hid k3; clear h3 k3)
      | (go_at_call 75; refine (E3.out.callD2 fun ex hx hs => Until_rs hs _ _ c3 (AtF.of_new ((AtF.of_new (F := Own w0 L2) Q4.out fun b o s hb hw => hw.2 (HN.out b o s hb)).kept K3.out).at fun b o s hb hw => hw.2 (hx b (HN.out b o s hb))) hn).mono ?_; rintro e w4 ⟨rfl, h4, k4⟩; have E4 := Lib.hid h4; have K4 := Lib.hid k4; clear h4 k4))
    go_ret
    exact ⟨rfl, E4.out.less HLL.out, K2.out.trans (keeps_less (K3.out.trans K4.out) HLL.out)⟩
set_option maxRecDepth 100000 in
theorem act_6 (h : DS w0 B C tb rb sb qb T T l l L w) (n m : Int) (names : List ByteArray) (aa : Option Addr) (ac : Nat) (hn : names.length ≤ 1048576) (hc : aa = none → ac = 0) (ha : At w aa (strsV names)) :
    Calls Try.prog 32 #[.pointer (some ⟨sb, 0, none⟩), .pointer (some ⟨qb, 0, none⟩), .agg #[.int .i64 6, .int .i64 n, .int .i64 m, .slice aa names.length ac]] w fun e w' =>
      e = .returned (.bool true) ∧ DS w0 B C tb rb sb qb T T (stClear T names l.reverse).reverse (stClear T names l.reverse).reverse L w' ∧ Keeps (Own w0 L) w w' := by
  have hB := heap_alloc_new w (.cells #[.int .i64 6, .int .i64 n, .int .i64 m, .slice aa names.length ac] 68)
  have hb1 := (Below.refl w.heap.size w).alloc (Nat.le_refl _) (.cells #[.int .i64 6, .int .i64 n, .int .i64 m, .slice aa names.length ac] 68)
  have hz1 : w.heap.size < (w.alloc (.cells #[.int .i64 6, .int .i64 n, .int .i64 m, .slice aa names.length ac] 68)).heap.size := by simp
  go_enter Try.func32, Try.ntmps32
  go_upto_region 1 with fail
  generalize w.alloc (.cells #[.int .i64 6, .int .i64 n, .int .i64 m, .slice aa names.length ac] 68) = w1 at *
  obtain ⟨r0, r1, r2, r3⟩ := cells4r hB
  have A1 := Lib.hid ((ha.below hb1).below ((Below.refl w1.heap.size w1).alloc (Nat.le_refl _) (.cells #[] 9)))
  have HE : Hid ((w1.alloc (.cells #[] 9)).ownsRow w1.heap.size 9 1 (.slice (some ⟨w1.heap.size, 0, none⟩) 0 0) 0 []) := World.ownsRow_lit w1 #[] 0 (Nat.le_refl _) (Nat.zero_le _) rfl
  have HC := Lib.hid hc
  obtain ⟨i0, hi, hz0, hz1', hz2⟩ := info_parts info_str1
  have b0 : 0 + names.length ≤ maxLen := by unfold maxLen; omega
  have b1 : (0 + names.length) * 16 ≤ 140737488355328 := by omega
  have HNL := Lib.hid (show (strsV names).length = names.length * 1 by rw [strsV_length, Nat.mul_one])
  have HZ : Hid (w1.heap.size ≤ (w1.alloc (.cells #[] 9)).heap.size) := by show _ ≤ _; simp
  have HB1 := Lib.hid hb1
  have HD := Lib.hid h
  have HZ1 := Lib.hid hz1
  have R0 := Lib.hid r0
  have R1 := Lib.hid r1
  have R2 := Lib.hid r2
  have B2 := Lib.hid ((Below.refl w1.heap.size w1).alloc (Nat.le_refl _) (.cells #[] 9))
  have r3' := cell_later B2.out r3
  clear h hb1 hB ha hc hz1 r0 r1 r2
  go_upto_region 2 with (at_builtin; go_must (refine wpList_append_slice _ rfl _ _ 51 rfl w1.heap.size 9 i0 _ 1 16 Try.underlying51 hi hz0 hz1' hz2 rfl (by decide) _ 0 [] rfl HE.out aa names.length ac (strsV names) rfl HNL.out HC.out A1.out (strsV_one names) b0 b1 HZ.out ?_; intro v2 w2 hown2 hgr2; simp only [Nat.zero_add, List.nil_append] at hown2; have HO2 := Lib.hid hown2; have HG2 := Lib.hid hgr2; clear hown2 hgr2))
  have hb3 : Below w1.heap.size w1 w2 := B2.out.grown HG2.out HZ.out (fun b hb => (HE.out.lt b hb).1)
  have hb4 : Below w.heap.size w w2 := HB1.out.trans (hb3.mono HB1.out.size)
  have E2 := HD.out.lay hb4
  have u0 := cell_later hb3 R0.out
  have u1 := cell_later hb3 R1.out
  have u2 := cell_later hb3 R2.out
  have K2 : Hid (Keeps (Own w0 L) w w2) := Lib.hid (Keeps.ofBelow hb4)
  obtain ⟨L2, hL2⟩ : ∃ L2 : Nat → Prop, L2 = fun k => L k ∨ (w.heap.size ≤ k ∧ k < w2.heap.size) := ⟨_, rfl⟩
  rw [← hL2] at E2
  have HLL := Lib.hid (show ∀ k, L k → L2 k by rw [hL2]; exact fun k hk => .inl hk)
  have HL2 := Lib.hid (show L2 w.heap.size by rw [hL2]; exact .inr ⟨Nat.le_refl _, Nat.lt_of_lt_of_le HZ1.out hb3.size⟩)
  have HE2 := Lib.hid E2
  obtain ⟨a3, c3, rfl, q1, q2, q3, q4⟩ := own_at HO2.out
  have HN : Hid (∀ b o s, a3 = some ⟨b, o, s⟩ → L2 b) := Lib.hid (by
    rintro b o s rfl
    obtain ⟨p1, p2⟩ := HO2.out.lt b rfl
    rw [hL2]
    exact .inr ⟨Nat.le_trans HB1.out.size p1, p2⟩)
  have Q4 := Lib.hid q4
  clear HO2 HG2 HE HZ HNL A1 HC B2 HB1 hb3 hb4 E2 R0 R1 R2 q1 q2 q3 q4 r3' hL2 HD HZ1
  rcases names with _ | ⟨x, r⟩
  · go_upto_region 5 with fail
    go_wp2_with (first
      | (go_at_call 76; refine (HE2.out.callP2 fun ex hx hs => Clear_si hs _ _ c3 (AtF.of_new Q4.out fun b o s hb hw => hw.2 (hx b (HN.out b o s hb))) hn).mono ?_; rintro e w3 ⟨rfl, h3, k3⟩; have v1 := own_cell k3 HL2.out u1; have E3 := Lib.hid h3; have K3 := Lib.hid k3; clear h3 k3)
      | (go_at_call 77; refine (E3.out.callD2 fun ex hx hs => Clear_rs hs _ _ c3 (AtF.of_new ((AtF.of_new (F := Own w0 L2) Q4.out fun b o s hb hw => hw.2 (HN.out b o s hb)).kept K3.out).at fun b o s hb hw => hw.2 (hx b (HN.out b o s hb))) hn).mono ?_; rintro e w4 ⟨rfl, h4, k4⟩; have E4 := Lib.hid h4; have K4 := Lib.hid k4; clear h4 k4))
    go_ret
    exact ⟨rfl, E4.out.less HLL.out, K2.out.trans (keeps_less (K3.out.trans K4.out) HLL.out)⟩
  · obtain ⟨g3, o3, rfl⟩ := Q4.out.some_of (by simp [strsV])
    have x0 : w2.cell? ⟨g3, o3, none⟩ = some (.string x) := by simpa using Q4.out.get (j := 0) (u := .string x) (by simp [strsV])
    have hlen : (x :: r).length = r.length + 1 := rfl
    rw [hlen]
    go_upto_region 5 with fail
    go_wp2_with (first
      | (go_at_call 76; refine (HE2.out.callP2 fun ex hx hs => Clear_si hs _ _ c3 (AtF.of_new Q4.out fun b o s hb hw => hw.2 (hx b (HN.out b o s hb))) hn).mono ?_; rintro e w3 ⟨rfl, h3, k3⟩; have v1 := own_cell k3 HL2.out u1; have E3 := Lib.hid h3; have K3 := Lib.hid k3; clear h3 k3)
      | (go_at_call 77; refine (E3.out.callD2 fun ex hx hs => Clear_rs hs _ _ c3 (AtF.of_new ((AtF.of_new (F := Own w0 L2) Q4.out fun b o s hb hw => hw.2 (HN.out b o s hb)).kept K3.out).at fun b o s hb hw => hw.2 (hx b (HN.out b o s hb))) hn).mono ?_; rintro e w4 ⟨rfl, h4, k4⟩; have E4 := Lib.hid h4; have K4 := Lib.hid k4; clear h4 k4))
    go_ret
    exact ⟨rfl, E4.out.less HLL.out, K2.out.trans (keeps_less (K3.out.trans K4.out) HLL.out)⟩
end
end Go.Proofs.Ytidbihdnginmcaa

/-
  Both stacks as a law sees them: what it reads of them, and a row that the law itself lays into the document's. No conditions beyond those that each lemma types.
-/
namespace Go.Proofs.Ytidbihdnginmcaa
open Go.RowKit Mem

section
variable {w0 w w1 w' : World} {A A' B B' : (Nat → Prop) → World → Prop} {L L' : Nat → Prop}
/-- the law itself does what the document's side bears -/
theorem DI.stepB (hA : Side w0 A) (hB : Side w0 B) (hB' : Side w0 B') (h : DI w0 A B L w) (hc : ∀ ex, B ex w → B' ex w' ∧ Keeps (Own w0 ex) w w') : DI w0 A B' L w' ∧ Keeps (Own w0 L) w w' := by
  obtain ⟨PB, h1, h2, h3, h4⟩ := h
  have hs0 := (hB.below h4).size
  obtain ⟨hb, hk⟩ := hc _ h4
  have hsz := hk.size
  refine ⟨⟨fun k => PB k ∨ (w.heap.size ≤ k ∧ k < w'.heap.size), ?_, fun k hk => ⟨(h2 k hk).1, Nat.lt_of_lt_of_le (h2 k hk).2 hsz⟩, ?_, ?_⟩, hk.mono fun k hlt hx => ⟨hx.1, fun hL => hx.2 ⟨hx.1, hlt, fun hP => (h1 k hP).1 hL⟩⟩⟩
  · rintro k (hx | hx)
    · exact ⟨(h1 k hx).1, Nat.lt_of_lt_of_le (h1 k hx).2.1 hsz, (h1 k hx).2.2⟩
    · exact ⟨fun hL => by have := (h2 k hL).2; omega, hx.2, by omega⟩
  · refine hA.foreign h3 hk (fun k hlt hx => ⟨?_, hx.1⟩) ?_
    · refine .inl ?_
      exact Classical.byContradiction fun hn => hx.2 ⟨hx.1, hlt, hn⟩
    · rintro k ((hx | hx) | hx)
      · exact ⟨.inl (.inl hx), Nat.lt_of_lt_of_le (h1 k hx).2.1 hsz⟩
      · exact ⟨.inr hx.1, hx.2⟩
      · exact ⟨.inl (.inr hx), Nat.lt_of_lt_of_le (h2 k hx).2 hsz⟩
  · refine hB'.foreign hb (Keeps.refl (fun _ => False) w') (fun _ _ h => h.elim) fun k hx => ⟨.inl ⟨hx.1, ?_, fun hP => hx.2.2 (.inl hP)⟩, hx.2.1⟩
    rcases Nat.lt_or_ge k w.heap.size with h | h
    · exact h
    · exact absurd (.inr ⟨h, hx.2.1⟩) hx.2.2
end

section
variable {w0 w w1 w' : World} {B C tb rb sb qb : Nat} {ex : Nat → Prop} {T U : TreeD} {l m l' m' : List Int} {L : Nat → Prop}
theorem RSI.laid (h : RSI w0 B rb sb ex T l w) (hb : Below w.heap.size w w1) {v : Value} {n : Nat} (hn : n = l'.length) (ho : w1.ownsRow w.heap.size 3 1 v n (intsV l')) (hl : l'.length ≤ 1000000) :
    RSI w0 B rb sb ex T l' (w1.setCell ⟨sb, 1, none⟩ v) ∧ Keeps (Own w0 ex) w (w1.setCell ⟨sb, 1, none⟩ v) := by
  obtain ⟨gn, gk, gs, far, h1, h2, h3, h4⟩ := h
  have hlt := h2.lt sb (.inl rfl)
  have h2' := h2.kept (Keeps.ofBelow (F := fun _ => False) hb) (fun _ _ h => h)
  obtain ⟨q1, q2⟩ := h2'.lay hn ho hlt
  exact rsi_step h1 h3 hl ((Keeps.ofBelow hb).set (p := ⟨sb, 1, none⟩) (.inl (.inl rfl)) v) q1 fun k hk => .inr (q2 k hk)
theorem DS.laid (h : DS w0 B C tb rb sb qb T U l m L w) (hb : Below w.heap.size w w1) {v : Value} {n : Nat} (hn : n = m'.length) (ho : w1.ownsRow w.heap.size 3 1 v n (intsV m')) (hl : m'.length ≤ 1000000) :
    DS w0 B C tb rb sb qb T U l m' L (w1.setCell ⟨qb, 1, none⟩ v) ∧ Keeps (Own w0 L) w (w1.setCell ⟨qb, 1, none⟩ v) :=
  DI.stepB (B' := fun ex w => RSI w0 C rb qb ex U m' w) (si_side ..) (rsi_side ..) (rsi_side ..) h fun _ h => h.laid hb hn ho hl
theorem DS.si (h : DS w0 B C tb rb sb qb T U l m L w) : ∃ ex, SI w0 B tb sb ex T l w := by
  obtain ⟨ex, h, _⟩ := DI.left h
  exact ⟨ex, h⟩
theorem DS.rsi (h : DS w0 B C tb rb sb qb T U l m L w) : ∃ ex, RSI w0 C rb qb ex U m w := by
  obtain ⟨ex, h, _⟩ := DI.right h
  exact ⟨ex, h⟩
theorem DS.short (h : DS w0 B C tb rb sb qb T U l m L w) : m.length ≤ 1000000 := by
  obtain ⟨_, h⟩ := h.rsi
  exact h.short
theorem DS.cells (h : DS w0 B C tb rb sb qb T U l m L w) : ∃ a c, w.cell? ⟨qb, 1, none⟩ = some (.slice a m.length c) ∧ At w a (intsV m) ∧ w.frozen? ⟨qb, 1, none⟩ = false ∧ (a = none → c = 0) ∧ qb < w.heap.size := by
  obtain ⟨_, _, _, _, _, _, h, _⟩ := h.rsi
  have hlt := h.lt qb (.inl rfl)
  obtain ⟨a, c, _, c1, hat, _, hf, _, hn, _⟩ := h.cells
  exact ⟨a, c, c1, hat, hf, hn, hlt⟩
end
end Go.Proofs.Ytidbihdnginmcaa
