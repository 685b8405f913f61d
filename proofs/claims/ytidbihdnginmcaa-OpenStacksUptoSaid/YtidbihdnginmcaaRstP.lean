/-
  Law 14's act: Pop, Has, HasNode, Find. No conditions beyond those that each lemma types.
-/
import Derived.Test.YtidbihdnginmcaaRstMO
namespace Go.Proofs.Ytidbihdnginmcaa
open Go.RowKit Mem

section
variable {w0 w : World} {B C tb rb sb qb : Nat} {T : TreeD} {l : List Int} {L : Nat → Prop}
set_option maxRecDepth 100000 in
theorem act_1 (h : DS w0 B C tb rb sb qb T T l l L w) (n m : Int) (names : List ByteArray) (aa : Option Addr) (ac : Nat) (hn : names.length ≤ 1048576) (hc : aa = none → ac = 0) (ha : At w aa (strsV names)) :
    Calls Try.prog 32 #[.pointer (some ⟨sb, 0, none⟩), .pointer (some ⟨qb, 0, none⟩), .agg #[.int .i64 1, .int .i64 n, .int .i64 m, .slice aa names.length ac]] w fun e w' =>
      e = .returned (.bool true) ∧ DS w0 B C tb rb sb qb T T l.dropLast l.dropLast L w' ∧ Keeps (Own w0 L) w w' := by
  have hB := heap_alloc_new w (.cells #[.int .i64 1, .int .i64 n, .int .i64 m, .slice aa names.length ac] 68)
  have hb1 := (Below.refl w.heap.size w).alloc (Nat.le_refl _) (.cells #[.int .i64 1, .int .i64 n, .int .i64 m, .slice aa names.length ac] 68)
  have hz1 : w.heap.size < (w.alloc (.cells #[.int .i64 1, .int .i64 n, .int .i64 m, .slice aa names.length ac] 68)).heap.size := by simp
  go_enter Try.func32, Try.ntmps32
  go_upto_region 1 with fail
  generalize w.alloc (.cells #[.int .i64 1, .int .i64 n, .int .i64 m, .slice aa names.length ac] 68) = w1 at *
  obtain ⟨r0, r1, r2, r3⟩ := cells4r hB
  have A1 := Lib.hid ((ha.below hb1).below ((Below.refl w1.heap.size w1).alloc (Nat.le_refl _) (.cells #[] 9)))
  have HE : Hid ((w1.alloc (.cells #[] 9)).ownsRow w1.heap.size 9 1 (.slice (some ⟨w1.heap.size, 0, none⟩) 0 0) 0 []) := World.ownsRow_lit w1 #[] 0 (Nat.le_refl _) (Nat.zero_le _) rfl
  have HC := Lib.hid hc
  obtain ⟨i0, hi, hz0, hz1', hz2⟩ := info_parts info_str1
  have b0 : 0 + names.length ≤ maxLen := by unfold maxLen; omega
  have b1 : (0 + names.length) * 16 ≤ 140737488355328 := by omega
  have HNL := Lib.hid (show (strsV names).length = names.length * 1 by rw [strsV_length, Nat.mul_one])
  have HZ : Hid (w1.heap.size ≤ (w1.alloc (.cells #[] 9)).heap.size) := by show _ ≤ _; simp
  have HB1 := Lib.hid hb1
  have HD := Lib.hid h
  have HZ1 := Lib.hid hz1
  have R0 := Lib.hid r0
  have R1 := Lib.hid r1
  have R2 := Lib.hid r2
  have B2 := Lib.hid ((Below.refl w1.heap.size w1).alloc (Nat.le_refl _) (.cells #[] 9))
  have r3' := cell_later B2.out r3
  clear h hb1 hB ha hc hz1 r0 r1 r2
  go_upto_region 2 with (at_builtin; go_must (refine wpList_append_slice _ rfl _ _ 51 rfl w1.heap.size 9 i0 _ 1 16 Try.underlying51 hi hz0 hz1' hz2 rfl (by decide) _ 0 [] rfl HE.out aa names.length ac (strsV names) rfl HNL.out HC.out A1.out (strsV_one names) b0 b1 HZ.out ?_; intro v2 w2 hown2 hgr2; simp only [Nat.zero_add, List.nil_append] at hown2; have HO2 := Lib.hid hown2; have HG2 := Lib.hid hgr2; clear hown2 hgr2))
  have hb3 : Below w1.heap.size w1 w2 := B2.out.grown HG2.out HZ.out (fun b hb => (HE.out.lt b hb).1)
  have hb4 : Below w.heap.size w w2 := HB1.out.trans (hb3.mono HB1.out.size)
  have E2 := HD.out.lay hb4
  have u0 := cell_later hb3 R0.out
  have u1 := cell_later hb3 R1.out
  have u2 := cell_later hb3 R2.out
  have K2 : Hid (Keeps (Own w0 L) w w2) := Lib.hid (Keeps.ofBelow hb4)
  obtain ⟨L2, hL2⟩ : ∃ L2 : Nat → Prop, L2 = fun k => L k ∨ (w.heap.size ≤ k ∧ k < w2.heap.size) := ⟨_, rfl⟩
  rw [← hL2] at E2
  have HLL := Lib.hid (show ∀ k, L k → L2 k by rw [hL2]; exact fun k hk => .inl hk)
  have HL2 := Lib.hid (show L2 w.heap.size by rw [hL2]; exact .inr ⟨Nat.le_refl _, Nat.lt_of_lt_of_le HZ1.out hb3.size⟩)
  have HE2 := Lib.hid E2
  obtain ⟨a3, c3, rfl, q1, q2, q3, q4⟩ := own_at HO2.out
  have HN : Hid (∀ b o s, a3 = some ⟨b, o, s⟩ → L2 b) := Lib.hid (by
    rintro b o s rfl
    obtain ⟨p1, p2⟩ := HO2.out.lt b rfl
    rw [hL2]
    exact .inr ⟨Nat.le_trans HB1.out.size p1, p2⟩)
  have Q4 := Lib.hid q4
  clear HO2 HG2 HE HZ HNL A1 HC B2 HB1 hb3 hb4 E2 R0 R1 R2 q1 q2 q3 q4 r3' hL2 HD HZ1
  rcases names with _ | ⟨x, r⟩
  · go_upto_region 5 with fail
    go_wp2_with (first
      | (go_at_call 67; refine (HE2.out.callP fun ex hs => Pop_si hs).mono ?_; rintro e w3 ⟨rfl, h3, k3⟩; have E3 := Lib.hid h3; have K3 := Lib.hid k3; clear h3 k3)
      | (go_at_call 68; refine (E3.out.callD fun ex hs => Pop_rs hs).mono ?_; rintro e w4 ⟨rfl, h4, k4⟩; have E4 := Lib.hid h4; have K4 := Lib.hid k4; clear h4 k4))
    go_ret
    exact ⟨ret_bool (by simp), E4.out.less HLL.out, K2.out.trans (keeps_less (K3.out.trans K4.out) HLL.out)⟩
  · obtain ⟨g3, o3, rfl⟩ := Q4.out.some_of (by simp [strsV])
    have x0 : w2.cell? ⟨g3, o3, none⟩ = some (.string x) := by simpa using Q4.out.get (j := 0) (u := .string x) (by simp [strsV])
    have hlen : (x :: r).length = r.length + 1 := rfl
    rw [hlen]
    generalize r.length = rn at *
    go_upto_region 5 with fail
    go_wp2_with (first
      | (go_at_call 67; refine (HE2.out.callP fun ex hs => Pop_si hs).mono ?_; rintro e w3 ⟨rfl, h3, k3⟩; have E3 := Lib.hid h3; have K3 := Lib.hid k3; clear h3 k3)
      | (go_at_call 68; refine (E3.out.callD fun ex hs => Pop_rs hs).mono ?_; rintro e w4 ⟨rfl, h4, k4⟩; have E4 := Lib.hid h4; have K4 := Lib.hid k4; clear h4 k4))
    go_ret
    exact ⟨ret_bool (by simp), E4.out.less HLL.out, K2.out.trans (keeps_less (K3.out.trans K4.out) HLL.out)⟩
set_option maxRecDepth 100000 in
theorem act_8 (h : DS w0 B C tb rb sb qb T T l l L w) (n m : Int) (names : List ByteArray) (aa : Option Addr) (ac : Nat) (hn : names.length ≤ 1048576) (hc : aa = none → ac = 0) (ha : At w aa (strsV names)) :
    Calls Try.prog 32 #[.pointer (some ⟨sb, 0, none⟩), .pointer (some ⟨qb, 0, none⟩), .agg #[.int .i64 8, .int .i64 n, .int .i64 m, .slice aa names.length ac]] w fun e w' =>
      e = .returned (.bool true) ∧ DS w0 B C tb rb sb qb T T l l L w' ∧ Keeps (Own w0 L) w w' := by
  have hB := heap_alloc_new w (.cells #[.int .i64 8, .int .i64 n, .int .i64 m, .slice aa names.length ac] 68)
  have hb1 := (Below.refl w.heap.size w).alloc (Nat.le_refl _) (.cells #[.int .i64 8, .int .i64 n, .int .i64 m, .slice aa names.length ac] 68)
  have hz1 : w.heap.size < (w.alloc (.cells #[.int .i64 8, .int .i64 n, .int .i64 m, .slice aa names.length ac] 68)).heap.size := by simp
  go_enter Try.func32, Try.ntmps32
  go_upto_region 1 with fail
  generalize w.alloc (.cells #[.int .i64 8, .int .i64 n, .int .i64 m, .slice aa names.length ac] 68) = w1 at *
  obtain ⟨r0, r1, r2, r3⟩ := cells4r hB
  have A1 := Lib.hid ((ha.below hb1).below ((Below.refl w1.heap.size w1).alloc (Nat.le_refl _) (.cells #[] 9)))
  have HE : Hid ((w1.alloc (.cells #[] 9)).ownsRow w1.heap.size 9 1 (.slice (some ⟨w1.heap.size, 0, none⟩) 0 0) 0 []) := World.ownsRow_lit w1 #[] 0 (Nat.le_refl _) (Nat.zero_le _) rfl
  have HC := Lib.hid hc
  obtain ⟨i0, hi, hz0, hz1', hz2⟩ := info_parts info_str1
  have b0 : 0 + names.length ≤ maxLen := by unfold maxLen; omega
  have b1 : (0 + names.length) * 16 ≤ 140737488355328 := by omega
  have HNL := Lib.hid (show (strsV names).length = names.length * 1 by rw [strsV_length, Nat.mul_one])
  have HZ : Hid (w1.heap.size ≤ (w1.alloc (.cells #[] 9)).heap.size) := by show _ ≤ _; simp
  have HB1 := Lib.hid hb1
  have HD := Lib.hid h
  have HZ1 := Lib.hid hz1
  have R0 := Lib.hid r0
  have R1 := Lib.hid r1
  have R2 := Lib.hid r2
  have B2 := Lib.hid ((Below.refl w1.heap.size w1).alloc (Nat.le_refl _) (.cells #[] 9))
  have r3' := cell_later B2.out r3
  clear h hb1 hB ha hc hz1 r0 r1 r2
  go_upto_region 2 with (at_builtin; go_must (refine wpList_append_slice _ rfl _ _ 51 rfl w1.heap.size 9 i0 _ 1 16 Try.underlying51 hi hz0 hz1' hz2 rfl (by decide) _ 0 [] rfl HE.out aa names.length ac (strsV names) rfl HNL.out HC.out A1.out (strsV_one names) b0 b1 HZ.out ?_; intro v2 w2 hown2 hgr2; simp only [Nat.zero_add, List.nil_append] at hown2; have HO2 := Lib.hid hown2; have HG2 := Lib.hid hgr2; clear hown2 hgr2))
  have hb3 : Below w1.heap.size w1 w2 := B2.out.grown HG2.out HZ.out (fun b hb => (HE.out.lt b hb).1)
  have hb4 : Below w.heap.size w w2 := HB1.out.trans (hb3.mono HB1.out.size)
  have E2 := HD.out.lay hb4
  have u0 := cell_later hb3 R0.out
  have u1 := cell_later hb3 R1.out
  have u2 := cell_later hb3 R2.out
  have K2 : Hid (Keeps (Own w0 L) w w2) := Lib.hid (Keeps.ofBelow hb4)
  obtain ⟨L2, hL2⟩ : ∃ L2 : Nat → Prop, L2 = fun k => L k ∨ (w.heap.size ≤ k ∧ k < w2.heap.size) := ⟨_, rfl⟩
  rw [← hL2] at E2
  have HLL := Lib.hid (show ∀ k, L k → L2 k by rw [hL2]; exact fun k hk => .inl hk)
  have HL2 := Lib.hid (show L2 w.heap.size by rw [hL2]; exact .inr ⟨Nat.le_refl _, Nat.lt_of_lt_of_le HZ1.out hb3.size⟩)
  have HE2 := Lib.hid E2
  obtain ⟨a3, c3, rfl, q1, q2, q3, q4⟩ := own_at HO2.out
  have HN : Hid (∀ b o s, a3 = some ⟨b, o, s⟩ → L2 b) := Lib.hid (by
    rintro b o s rfl
    obtain ⟨p1, p2⟩ := HO2.out.lt b rfl
    rw [hL2]
    exact .inr ⟨Nat.le_trans HB1.out.size p1, p2⟩)
  have Q4 := Lib.hid q4
  clear HO2 HG2 HE HZ HNL A1 HC B2 HB1 hb3 hb4 E2 R0 R1 R2 q1 q2 q3 q4 r3' hL2 HD HZ1
  obtain ⟨hv, hhv⟩ : ∃ v, v = hasF T l n names := ⟨_, rfl⟩
  have HP : Hid (∀ u, Below w2.heap.size w2 u → Calls Try.prog 28 #[.pointer (some ⟨sb, 0, none⟩), .int .i64 n, .slice a3 names.length c3] u fun e w' => e = .returned (.bool hv) ∧ Below u.heap.size u w') := Lib.hid (fun u hu => by
    obtain ⟨ex, hs⟩ := (HE2.out.world hu).si
    rw [hhv]
    exact Has_si hs n names a3 c3 (Q4.out.below hu) hn)
  have HR : Hid (∀ u, Below w2.heap.size w2 u → Calls Try.prog 80 #[.pointer (some ⟨qb, 0, none⟩), .int .i64 n, .slice a3 names.length c3] u fun e w' => e = .returned (.bool hv) ∧ Below u.heap.size u w') := Lib.hid (fun u hu => by
    obtain ⟨ex, hs⟩ := (HE2.out.world hu).rsi
    rw [hhv]
    exact Has_rs hs n names a3 c3 (Q4.out.below hu) hn)
  clear hhv
  rcases names with _ | ⟨x, r⟩
  · go_wp2_with fail
    refine wp_region_calm (by kernel_rfl) (by kernel_rfl) ?_
    repeat
      with_reducible refine wpQuiet_step (fun K hK => ?_)
      first
        | (with_reducible apply calm_skip
           · rfl
           simp only [Act.put, List.setIfInBounds_toArray, List.set_cons_zero, List.set_cons_succ]
           refine hK _ ?_
           clear hK K)
        | (with_reducible apply calm_run
           · rfl
           · intro wq hC
             have zu1 := cell_later hC.out u1
             unfold Oper.quietAt
             go_simp
             first | done | (go_at_call 28; refine (HP.out _ hC.out).mono ?_; rintro e wx ⟨rfl, hbx⟩; exact ⟨rfl, Lib.hid (belowCall hC.out hbx)⟩) | (go_at_call 80; refine (HR.out _ hC.out).mono ?_; rintro e wx ⟨rfl, hbx⟩; exact ⟨rfl, Lib.hid (belowCall hC.out hbx)⟩) | with_reducible rfl | rfl
           simp only [Act.put, List.setIfInBounds_toArray, List.set_cons_zero, List.set_cons_succ]
           refine hK _ ?_
           clear hK K)
    with_reducible refine wpQuiet_nil ?_
    intro wq HQ
    have zu1 := cell_later HQ.out u1
    go_wp2_with fail
    go_ret
    exact ⟨ret_bool (by simp), (HE2.out.world HQ.out).less HLL.out, K2.out.trans (Keeps.ofBelow HQ.out)⟩
  · obtain ⟨g3, o3, rfl⟩ := Q4.out.some_of (by simp [strsV])
    have x0 : w2.cell? ⟨g3, o3, none⟩ = some (.string x) := by simpa using Q4.out.get (j := 0) (u := .string x) (by simp [strsV])
    have hlen : (x :: r).length = r.length + 1 := rfl
    rw [hlen]
    go_wp2_with fail
    refine wp_region_calm (by kernel_rfl) (by kernel_rfl) ?_
    repeat
      with_reducible refine wpQuiet_step (fun K hK => ?_)
      first
        | (with_reducible apply calm_skip
           · rfl
           simp only [Act.put, List.setIfInBounds_toArray, List.set_cons_zero, List.set_cons_succ]
           refine hK _ ?_
           clear hK K)
        | (with_reducible apply calm_run
           · rfl
           · intro wq hC
             have zu1 := cell_later hC.out u1
             unfold Oper.quietAt
             go_simp
             first | done | (go_at_call 28; refine (HP.out _ hC.out).mono ?_; rintro e wx ⟨rfl, hbx⟩; exact ⟨rfl, Lib.hid (belowCall hC.out hbx)⟩) | (go_at_call 80; refine (HR.out _ hC.out).mono ?_; rintro e wx ⟨rfl, hbx⟩; exact ⟨rfl, Lib.hid (belowCall hC.out hbx)⟩) | with_reducible rfl | rfl
           simp only [Act.put, List.setIfInBounds_toArray, List.set_cons_zero, List.set_cons_succ]
           refine hK _ ?_
           clear hK K)
    with_reducible refine wpQuiet_nil ?_
    intro wq HQ
    have zu1 := cell_later HQ.out u1
    go_wp2_with fail
    go_ret
    exact ⟨ret_bool (by simp), (HE2.out.world HQ.out).less HLL.out, K2.out.trans (Keeps.ofBelow HQ.out)⟩
set_option maxRecDepth 100000 in
theorem act_9 (h : DS w0 B C tb rb sb qb T T l l L w) (n m : Int) (names : List ByteArray) (aa : Option Addr) (ac : Nat) (hn : names.length ≤ 1048576) (hc : aa = none → ac = 0) (ha : At w aa (strsV names)) :
    Calls Try.prog 32 #[.pointer (some ⟨sb, 0, none⟩), .pointer (some ⟨qb, 0, none⟩), .agg #[.int .i64 9, .int .i64 n, .int .i64 m, .slice aa names.length ac]] w fun e w' =>
      e = .returned (.bool true) ∧ DS w0 B C tb rb sb qb T T l l L w' ∧ Keeps (Own w0 L) w w' := by
  have hB := heap_alloc_new w (.cells #[.int .i64 9, .int .i64 n, .int .i64 m, .slice aa names.length ac] 68)
  have hb1 := (Below.refl w.heap.size w).alloc (Nat.le_refl _) (.cells #[.int .i64 9, .int .i64 n, .int .i64 m, .slice aa names.length ac] 68)
  have hz1 : w.heap.size < (w.alloc (.cells #[.int .i64 9, .int .i64 n, .int .i64 m, .slice aa names.length ac] 68)).heap.size := by simp
  go_enter Try.func32, Try.ntmps32
  go_upto_region 1 with fail
  generalize w.alloc (.cells #[.int .i64 9, .int .i64 n, .int .i64 m, .slice aa names.length ac] 68) = w1 at *
  obtain ⟨r0, r1, r2, r3⟩ := cells4r hB
  have A1 := Lib.hid ((ha.below hb1).below ((Below.refl w1.heap.size w1).alloc (Nat.le_refl _) (.cells #[] 9)))
  have HE : Hid ((w1.alloc (.cells #[] 9)).ownsRow w1.heap.size 9 1 (.slice (some ⟨w1.heap.size, 0, none⟩) 0 0) 0 []) := World.ownsRow_lit w1 #[] 0 (Nat.le_refl _) (Nat.zero_le _) rfl
  have HC := Lib.hid hc
  obtain ⟨i0, hi, hz0, hz1', hz2⟩ := info_parts info_str1
  have b0 : 0 + names.length ≤ maxLen := by unfold maxLen; omega
  have b1 : (0 + names.length) * 16 ≤ 140737488355328 := by omega
  have HNL := Lib.hid (show (strsV names).length = names.length * 1 by rw [strsV_length, Nat.mul_one])
  have HZ : Hid (w1.heap.size ≤ (w1.alloc (.cells #[] 9)).heap.size) := by show _ ≤ _; simp
  have HB1 := Lib.hid hb1
  have HD := Lib.hid h
  have HZ1 := Lib.hid hz1
  have R0 := Lib.hid r0
  have R1 := Lib.hid r1
  have R2 := Lib.hid r2
  have B2 := Lib.hid ((Below.refl w1.heap.size w1).alloc (Nat.le_refl _) (.cells #[] 9))
  have r3' := cell_later B2.out r3
  clear h hb1 hB ha hc hz1 r0 r1 r2
  go_upto_region 2 with (at_builtin; go_must (refine wpList_append_slice _ rfl _ _ 51 rfl w1.heap.size 9 i0 _ 1 16 Try.underlying51 hi hz0 hz1' hz2 rfl (by decide) _ 0 [] rfl HE.out aa names.length ac (strsV names) rfl HNL.out HC.out A1.out (strsV_one names) b0 b1 HZ.out ?_; intro v2 w2 hown2 hgr2; simp only [Nat.zero_add, List.nil_append] at hown2; have HO2 := Lib.hid hown2; have HG2 := Lib.hid hgr2; clear hown2 hgr2))
  have hb3 : Below w1.heap.size w1 w2 := B2.out.grown HG2.out HZ.out (fun b hb => (HE.out.lt b hb).1)
  have hb4 : Below w.heap.size w w2 := HB1.out.trans (hb3.mono HB1.out.size)
  have E2 := HD.out.lay hb4
  have u0 := cell_later hb3 R0.out
  have u1 := cell_later hb3 R1.out
  have u2 := cell_later hb3 R2.out
  have K2 : Hid (Keeps (Own w0 L) w w2) := Lib.hid (Keeps.ofBelow hb4)
  obtain ⟨L2, hL2⟩ : ∃ L2 : Nat → Prop, L2 = fun k => L k ∨ (w.heap.size ≤ k ∧ k < w2.heap.size) := ⟨_, rfl⟩
  rw [← hL2] at E2
  have HLL := Lib.hid (show ∀ k, L k → L2 k by rw [hL2]; exact fun k hk => .inl hk)
  have HL2 := Lib.hid (show L2 w.heap.size by rw [hL2]; exact .inr ⟨Nat.le_refl _, Nat.lt_of_lt_of_le HZ1.out hb3.size⟩)
  have HE2 := Lib.hid E2
  obtain ⟨a3, c3, rfl, q1, q2, q3, q4⟩ := own_at HO2.out
  have HN : Hid (∀ b o s, a3 = some ⟨b, o, s⟩ → L2 b) := Lib.hid (by
    rintro b o s rfl
    obtain ⟨p1, p2⟩ := HO2.out.lt b rfl
    rw [hL2]
    exact .inr ⟨Nat.le_trans HB1.out.size p1, p2⟩)
  have Q4 := Lib.hid q4
  clear HO2 HG2 HE HZ HNL A1 HC B2 HB1 hb3 hb4 E2 R0 R1 R2 q1 q2 q3 q4 r3' hL2 HD HZ1
  obtain ⟨hv, hhv⟩ : ∃ v, v = hasNodeF T l n := ⟨_, rfl⟩
  have HP : Hid (∀ u, Below w2.heap.size w2 u → Calls Try.prog 29 #[.pointer (some ⟨sb, 0, none⟩), .int .i64 n] u fun e w' => e = .returned (.bool hv) ∧ Below u.heap.size u w') := Lib.hid (fun u hu => by
    obtain ⟨ex, hs⟩ := (HE2.out.world hu).si
    rw [hhv]
    exact HasNode_si hs n)
  have HR : Hid (∀ u, Below w2.heap.size w2 u → Calls Try.prog 81 #[.pointer (some ⟨qb, 0, none⟩), .int .i64 n] u fun e w' => e = .returned (.bool hv) ∧ Below u.heap.size u w') := Lib.hid (fun u hu => by
    obtain ⟨ex, hs⟩ := (HE2.out.world hu).rsi
    rw [hhv]
    exact HasNode_rs hs n)
  clear hhv
  rcases names with _ | ⟨x, r⟩
  · go_wp2_with fail
    refine wp_region_calm (by kernel_rfl) (by kernel_rfl) ?_
    repeat
      with_reducible refine wpQuiet_step (fun K hK => ?_)
      first
        | (with_reducible apply calm_skip
           · rfl
           simp only [Act.put, List.setIfInBounds_toArray, List.set_cons_zero, List.set_cons_succ]
           refine hK _ ?_
           clear hK K)
        | (with_reducible apply calm_run
           · rfl
           · intro wq hC
             have zu1 := cell_later hC.out u1
             unfold Oper.quietAt
             go_simp
             first | done | (go_at_call 29; refine (HP.out _ hC.out).mono ?_; rintro e wx ⟨rfl, hbx⟩; exact ⟨rfl, Lib.hid (belowCall hC.out hbx)⟩) | (go_at_call 81; refine (HR.out _ hC.out).mono ?_; rintro e wx ⟨rfl, hbx⟩; exact ⟨rfl, Lib.hid (belowCall hC.out hbx)⟩) | with_reducible rfl | rfl
           simp only [Act.put, List.setIfInBounds_toArray, List.set_cons_zero, List.set_cons_succ]
           refine hK _ ?_
           clear hK K)
    with_reducible refine wpQuiet_nil ?_
    intro wq HQ
    have zu1 := cell_later HQ.out u1
    go_wp2_with fail
    go_ret
    exact ⟨ret_bool (by simp), (HE2.out.world HQ.out).less HLL.out, K2.out.trans (Keeps.ofBelow HQ.out)⟩
  · obtain ⟨g3, o3, rfl⟩ := Q4.out.some_of (by simp [strsV])
    have x0 : w2.cell? ⟨g3, o3, none⟩ = some (.string x) := by simpa using Q4.out.get (j := 0) (u := .string x) (by simp [strsV])
    have hlen : (x :: r).length = r.length + 1 := rfl
    rw [hlen]
    go_wp2_with fail
    refine wp_region_calm (by kernel_rfl) (by kernel_rfl) ?_
    repeat
      with_reducible refine wpQuiet_step (fun K hK => ?_)
      first
        | (with_reducible apply calm_skip
           · rfl
           simp only [Act.put, List.setIfInBounds_toArray, List.set_cons_zero, List.set_cons_succ]
           refine hK _ ?_
           clear hK K)
        | (with_reducible apply calm_run
           · rfl
           · intro wq hC
             have zu1 := cell_later hC.out u1
             unfold Oper.quietAt
             go_simp
             first | done | (go_at_call 29; refine (HP.out _ hC.out).mono ?_; rintro e wx ⟨rfl, hbx⟩; exact ⟨rfl, Lib.hid (belowCall hC.out hbx)⟩) | (go_at_call 81; refine (HR.out _ hC.out).mono ?_; rintro e wx ⟨rfl, hbx⟩; exact ⟨rfl, Lib.hid (belowCall hC.out hbx)⟩) | with_reducible rfl | rfl
           simp only [Act.put, List.setIfInBounds_toArray, List.set_cons_zero, List.set_cons_succ]
           refine hK _ ?_
           clear hK K)
    with_reducible refine wpQuiet_nil ?_
    intro wq HQ
    have zu1 := cell_later HQ.out u1
    go_wp2_with fail
    go_ret
    exact ⟨ret_bool (by simp), (HE2.out.world HQ.out).less HLL.out, K2.out.trans (Keeps.ofBelow HQ.out)⟩
set_option maxRecDepth 100000 in
theorem act_10 (h : DS w0 B C tb rb sb qb T T l l L w) (n m : Int) (names : List ByteArray) (aa : Option Addr) (ac : Nat) (hn : names.length ≤ 1048576) (hc : aa = none → ac = 0) (ha : At w aa (strsV names)) :
    Calls Try.prog 32 #[.pointer (some ⟨sb, 0, none⟩), .pointer (some ⟨qb, 0, none⟩), .agg #[.int .i64 10, .int .i64 n, .int .i64 m, .slice aa names.length ac]] w fun e w' =>
      e = .returned (.bool true) ∧ DS w0 B C tb rb sb qb T T l l L w' ∧ Keeps (Own w0 L) w w' := by
  have hB := heap_alloc_new w (.cells #[.int .i64 10, .int .i64 n, .int .i64 m, .slice aa names.length ac] 68)
  have hb1 := (Below.refl w.heap.size w).alloc (Nat.le_refl _) (.cells #[.int .i64 10, .int .i64 n, .int .i64 m, .slice aa names.length ac] 68)
  have hz1 : w.heap.size < (w.alloc (.cells #[.int .i64 10, .int .i64 n, .int .i64 m, .slice aa names.length ac] 68)).heap.size := by simp
  go_enter Try.func32, Try.ntmps32
  go_upto_region 1 with fail
  generalize w.alloc (.cells #[.int .i64 10, .int .i64 n, .int .i64 m, .slice aa names.length ac] 68) = w1 at *
  obtain ⟨r0, r1, r2, r3⟩ := cells4r hB
  have A1 := Lib.hid ((ha.below hb1).below ((Below.refl w1.heap.size w1).alloc (Nat.le_refl _) (.cells #[] 9)))
  have HE : Hid ((w1.alloc (.cells #[] 9)).ownsRow w1.heap.size 9 1 (.slice (some ⟨w1.heap.size, 0, none⟩) 0 0) 0 []) := World.ownsRow_lit w1 #[] 0 (Nat.le_refl _) (Nat.zero_le _) rfl
  have HC := Lib.hid hc
  obtain ⟨i0, hi, hz0, hz1', hz2⟩ := info_parts info_str1
  have b0 : 0 + names.length ≤ maxLen := by unfold maxLen; omega
  have b1 : (0 + names.length) * 16 ≤ 140737488355328 := by omega
  have HNL := Lib.hid (show (strsV names).length = names.length * 1 by rw [strsV_length, Nat.mul_one])
  have HZ : Hid (w1.heap.size ≤ (w1.alloc (.cells #[] 9)).heap.size) := by show _ ≤ _; simp
  have HB1 := Lib.hid hb1
  have HD := Lib.hid h
  have HZ1 := Lib.hid hz1
  have R0 := Lib.hid r0
  have R1 := Lib.hid r1
  have R2 := Lib.hid r2
  have B2 := Lib.hid ((Below.refl w1.heap.size w1).alloc (Nat.le_refl _) (.cells #[] 9))
  have r3' := cell_later B2.out r3
  clear h hb1 hB ha hc hz1 r0 r1 r2
  go_upto_region 2 with (at_builtin; go_must (refine wpList_append_slice _ rfl _ _ 51 rfl w1.heap.size 9 i0 _ 1 16 Try.underlying51 hi hz0 hz1' hz2 rfl (by decide) _ 0 [] rfl HE.out aa names.length ac (strsV names) rfl HNL.out HC.out A1.out (strsV_one names) b0 b1 HZ.out ?_; intro v2 w2 hown2 hgr2; simp only [Nat.zero_add, List.nil_append] at hown2; have HO2 := Lib.hid hown2; have HG2 := Lib.hid hgr2; clear hown2 hgr2))
  have hb3 : Below w1.heap.size w1 w2 := B2.out.grown HG2.out HZ.out (fun b hb => (HE.out.lt b hb).1)
  have hb4 : Below w.heap.size w w2 := HB1.out.trans (hb3.mono HB1.out.size)
  have E2 := HD.out.lay hb4
  have u0 := cell_later hb3 R0.out
  have u1 := cell_later hb3 R1.out
  have u2 := cell_later hb3 R2.out
  have K2 : Hid (Keeps (Own w0 L) w w2) := Lib.hid (Keeps.ofBelow hb4)
  obtain ⟨L2, hL2⟩ : ∃ L2 : Nat → Prop, L2 = fun k => L k ∨ (w.heap.size ≤ k ∧ k < w2.heap.size) := ⟨_, rfl⟩
  rw [← hL2] at E2
  have HLL := Lib.hid (show ∀ k, L k → L2 k by rw [hL2]; exact fun k hk => .inl hk)
  have HL2 := Lib.hid (show L2 w.heap.size by rw [hL2]; exact .inr ⟨Nat.le_refl _, Nat.lt_of_lt_of_le HZ1.out hb3.size⟩)
  have HE2 := Lib.hid E2
  obtain ⟨a3, c3, rfl, q1, q2, q3, q4⟩ := own_at HO2.out
  have HN : Hid (∀ b o s, a3 = some ⟨b, o, s⟩ → L2 b) := Lib.hid (by
    rintro b o s rfl
    obtain ⟨p1, p2⟩ := HO2.out.lt b rfl
    rw [hL2]
    exact .inr ⟨Nat.le_trans HB1.out.size p1, p2⟩)
  have Q4 := Lib.hid q4
  clear HO2 HG2 HE HZ HNL A1 HC B2 HB1 hb3 hb4 E2 R0 R1 R2 q1 q2 q3 q4 r3' hL2 HD HZ1
  obtain ⟨hv, hhv⟩ : ∃ v, v = rfind l n := ⟨_, rfl⟩
  have HP : Hid (∀ u, Below w2.heap.size w2 u → Calls Try.prog 82 #[.pointer (some ⟨sb, 0, none⟩), .int .i64 n] u fun e w' => e = .returned (.int .i64 hv) ∧ u = w') := Lib.hid (fun u hu => by
    obtain ⟨ex, hs⟩ := (HE2.out.world hu).si
    rw [hhv]
    exact Find_si hs n)
  have HR : Hid (∀ u, Below w2.heap.size w2 u → Calls Try.prog 83 #[.pointer (some ⟨qb, 0, none⟩), .int .i64 n] u fun e w' => e = .returned (.int .i64 hv) ∧ u = w') := Lib.hid (fun u hu => by
    obtain ⟨ex, hs⟩ := (HE2.out.world hu).rsi
    rw [hhv]
    exact Find_rs hs n)
  clear hhv
  rcases names with _ | ⟨x, r⟩
  · go_wp2_with fail
    refine wp_region_calm (by kernel_rfl) (by kernel_rfl) ?_
    repeat
      with_reducible refine wpQuiet_step (fun K hK => ?_)
      first
        | (with_reducible apply calm_skip
           · rfl
           simp only [Act.put, List.setIfInBounds_toArray, List.set_cons_zero, List.set_cons_succ]
           refine hK _ ?_
           clear hK K)
        | (with_reducible apply calm_run
           · rfl
           · intro wq hC
             have zu1 := cell_later hC.out u1
             unfold Oper.quietAt
             go_simp
             first | done | (go_at_call 82; refine (HP.out _ hC.out).mono ?_; rintro e wx ⟨rfl, hbx⟩; exact ⟨rfl, hbx ▸ hC⟩) | (go_at_call 83; refine (HR.out _ hC.out).mono ?_; rintro e wx ⟨rfl, hbx⟩; exact ⟨rfl, hbx ▸ hC⟩) | with_reducible rfl | rfl
           simp only [Act.put, List.setIfInBounds_toArray, List.set_cons_zero, List.set_cons_succ]
           refine hK _ ?_
           clear hK K)
    with_reducible refine wpQuiet_nil ?_
    intro wq HQ
    have zu1 := cell_later HQ.out u1
    go_wp2_with fail
    go_ret
    exact ⟨ret_bool (by simp), (HE2.out.world HQ.out).less HLL.out, K2.out.trans (Keeps.ofBelow HQ.out)⟩
  · obtain ⟨g3, o3, rfl⟩ := Q4.out.some_of (by simp [strsV])
    have x0 : w2.cell? ⟨g3, o3, none⟩ = some (.string x) := by simpa using Q4.out.get (j := 0) (u := .string x) (by simp [strsV])
    have hlen : (x :: r).length = r.length + 1 := rfl
    rw [hlen]
    go_wp2_with fail
    refine wp_region_calm (by kernel_rfl) (by kernel_rfl) ?_
    repeat
      with_reducible refine wpQuiet_step (fun K hK => ?_)
      first
        | (with_reducible apply calm_skip
           · rfl
           simp only [Act.put, List.setIfInBounds_toArray, List.set_cons_zero, List.set_cons_succ]
           refine hK _ ?_
           clear hK K)
        | (with_reducible apply calm_run
           · rfl
           · intro wq hC
             have zu1 := cell_later hC.out u1
             unfold Oper.quietAt
             go_simp
             first | done | (go_at_call 82; refine (HP.out _ hC.out).mono ?_; rintro e wx ⟨rfl, hbx⟩; exact ⟨rfl, hbx ▸ hC⟩) | (go_at_call 83; refine (HR.out _ hC.out).mono ?_; rintro e wx ⟨rfl, hbx⟩; exact ⟨rfl, hbx ▸ hC⟩) | with_reducible rfl | rfl
           simp only [Act.put, List.setIfInBounds_toArray, List.set_cons_zero, List.set_cons_succ]
           refine hK _ ?_
           clear hK K)
    with_reducible refine wpQuiet_nil ?_
    intro wq HQ
    have zu1 := cell_later HQ.out u1
    go_wp2_with fail
    go_ret
    exact ⟨ret_bool (by simp), (HE2.out.world HQ.out).less HLL.out, K2.out.trans (Keeps.ofBelow HQ.out)⟩
end
end Go.Proofs.Ytidbihdnginmcaa
