/-
  Law 14's act: Push. No conditions beyond those that each lemma types.
-/
import Derived.Test.YtidbihdnginmcaaRstMO
namespace Go.Proofs.Ytidbihdnginmcaa
open Go.RowKit Mem

section
variable {w0 w : World} {B C tb rb sb qb : Nat} {T : TreeD} {l : List Int} {L : Nat → Prop}
set_option maxHeartbeats 8000000 in
set_option maxRecDepth 100000 in
theorem act_0 (h : DS w0 B C tb rb sb qb T T l l L w) (n m : Int) (names : List ByteArray) (aa : Option Addr) (ac : Nat) (hn : names.length ≤ 1048576) (hlt : l.length < 1000000) (hc : aa = none → ac = 0) (ha : At w aa (strsV names)) :
    Calls Try.prog 32 #[.pointer (some ⟨sb, 0, none⟩), .pointer (some ⟨qb, 0, none⟩), .agg #[.int .i64 0, .int .i64 n, .int .i64 m, .slice aa names.length ac]] w fun e w' =>
      e = .returned (.bool true) ∧ DS w0 B C tb rb sb qb T T (l ++ [n]) (l ++ [n]) L w' ∧ Keeps (Own w0 L) w w' := by
  have hB := heap_alloc_new w (.cells #[.int .i64 0, .int .i64 n, .int .i64 m, .slice aa names.length ac] 68)
  have hb1 := (Below.refl w.heap.size w).alloc (Nat.le_refl _) (.cells #[.int .i64 0, .int .i64 n, .int .i64 m, .slice aa names.length ac] 68)
  have hz1 : w.heap.size < (w.alloc (.cells #[.int .i64 0, .int .i64 n, .int .i64 m, .slice aa names.length ac] 68)).heap.size := by simp
  go_enter Try.func32, Try.ntmps32
  go_upto_region 1 with fail
  generalize w.alloc (.cells #[.int .i64 0, .int .i64 n, .int .i64 m, .slice aa names.length ac] 68) = w1 at *
  obtain ⟨r0, r1, r2, r3⟩ := cells4r hB
  have A1 := Lib.hid ((ha.below hb1).below ((Below.refl w1.heap.size w1).alloc (Nat.le_refl _) (.cells #[] 9)))
  have HE : Hid ((w1.alloc (.cells #[] 9)).ownsRow w1.heap.size 9 1 (.slice (some ⟨w1.heap.size, 0, none⟩) 0 0) 0 []) := World.ownsRow_lit w1 #[] 0 (Nat.le_refl _) (Nat.zero_le _) rfl
  have HC := Lib.hid hc
  obtain ⟨i0, hi, hz0, hz1', hz2⟩ := info_parts info_str1
  have b0 : 0 + names.length ≤ maxLen := by unfold maxLen; omega
  have b1 : (0 + names.length) * 16 ≤ 140737488355328 := by omega
  have HNL := Lib.hid (show (strsV names).length = names.length * 1 by rw [strsV_length, Nat.mul_one])
  have HZ : Hid (w1.heap.size ≤ (w1.alloc (.cells #[] 9)).heap.size) := by show _ ≤ _; simp
  have HB1 := Lib.hid hb1
  have HD := Lib.hid h
  have HZ1 := Lib.hid hz1
  have R0 := Lib.hid r0
  have R1 := Lib.hid r1
  have R2 := Lib.hid r2
  have B2 := Lib.hid ((Below.refl w1.heap.size w1).alloc (Nat.le_refl _) (.cells #[] 9))
  have r3' := cell_later B2.out r3
  clear h hb1 hB ha hc hz1 r0 r1 r2
  go_upto_region 2 with (at_builtin; go_must (refine wpList_append_slice _ rfl _ _ 51 rfl w1.heap.size 9 i0 _ 1 16 Try.underlying51 hi hz0 hz1' hz2 rfl (by decide) _ 0 [] rfl HE.out aa names.length ac (strsV names) rfl HNL.out HC.out A1.out (strsV_one names) b0 b1 HZ.out ?_; intro v2 w2 hown2 hgr2; simp only [Nat.zero_add, List.nil_append] at hown2; have HO2 := Lib.hid hown2; have HG2 := Lib.hid hgr2; clear hown2 hgr2))
  have hb3 : Below w1.heap.size w1 w2 := B2.out.grown HG2.out HZ.out (fun b hb => (HE.out.lt b hb).1)
  have hb4 : Below w.heap.size w w2 := HB1.out.trans (hb3.mono HB1.out.size)
  have E2 := HD.out.lay hb4
  have u0 := cell_later hb3 R0.out
  have u1 := cell_later hb3 R1.out
  have u2 := cell_later hb3 R2.out
  have K2_ : Hid (Keeps (Own w0 L) w w2) := Lib.hid (Keeps.ofBelow hb4)
  obtain ⟨L2, hL2⟩ : ∃ L2 : Nat → Prop, L2 = fun k => L k ∨ (w.heap.size ≤ k ∧ k < w2.heap.size) := ⟨_, rfl⟩
  rw [← hL2] at E2
  have HLL := Lib.hid (show ∀ k, L k → L2 k by rw [hL2]; exact fun k hk => .inl hk)
  have HL2 := Lib.hid (show L2 w.heap.size by rw [hL2]; exact .inr ⟨Nat.le_refl _, Nat.lt_of_lt_of_le HZ1.out hb3.size⟩)
  have HE2 := Lib.hid E2
  obtain ⟨a3, c3, rfl, q1, q2, q3, q4⟩ := own_at HO2.out
  have HN : Hid (∀ b o s, a3 = some ⟨b, o, s⟩ → L2 b) := Lib.hid (by
    rintro b o s rfl
    obtain ⟨p1, p2⟩ := HO2.out.lt b rfl
    rw [hL2]
    exact .inr ⟨Nat.le_trans HB1.out.size p1, p2⟩)
  have Q4 := Lib.hid q4
  clear HO2 HG2 HE HZ HNL A1 HC B2 HB1 hb3 hb4 E2 R0 R1 R2 q1 q2 q3 q4 r3' hL2 HD HZ1
  rcases names with _ | ⟨x, r⟩
  · go_upto_region 5 with fail
    go_wp2_with (go_at_call 27; refine (HE2.out.callP fun ex hs => Push_si hs n hlt).mono ?_; rintro e w3 ⟨rfl, h3, k3⟩; have v1 := own_cell k3 HL2.out u1; have E3 := Lib.hid h3; have K3 := Lib.hid k3; clear h3 k3)
    obtain ⟨a, c, z1, hat, zf, hn0, hqb⟩ := E3.out.cells
    have HA := Lib.hid hat
    have HN0 := Lib.hid hn0
    have hlb := lt_of_cell v1
    clear hat hn0 u0 u1 u2 Q4 HN HL2 HE2
    obtain ⟨i0, hi0, hz0, hz1, hz2⟩ := info_parts stk_int
    have K1 : Hid (Keeps Non w3 (w3.drew.alloc (.cells #[] 3))) := Lib.hid ((Keeps.refl Non w3).drew.alloc _)
    have K4 : Hid (Keeps Non w3 (w3.drew.alloc (.cells #[.int .i64 n] 3))) := Lib.hid ((Keeps.refl Non w3).drew.alloc _)
    have K2 : Hid (Keeps Non w3 ((w3.drew.alloc (.cells #[] 3)).alloc (.cells #[.int .i64 n] 3))) := Lib.hid (((Keeps.refl Non w3).drew.alloc _).alloc _)
    have K3' : Hid (Keeps Non w3 ((w3.drew.alloc (.cells #[.int .i64 n] 3)).alloc (.cells #[] 3))) := Lib.hid (((Keeps.refl Non w3).drew.alloc _).alloc _)
    have O1 : Hid ((w3.drew.alloc (.cells #[] 3)).ownsRow w3.heap.size 3 1 (.slice (some ⟨w3.heap.size, 0, none⟩) 0 0) 0 []) := Lib.hid (World.ownsRow_lit w3.drew #[] 0 (Nat.le_refl _) (Nat.zero_le _) rfl)
    have O2 := Lib.hid (O1.out.alloc (.cells #[.int .i64 n] 3))
    have O3 : Hid (((w3.drew.alloc (.cells #[.int .i64 n] 3)).alloc (.cells #[] 3)).ownsRow w3.heap.size 3 1 (.slice (some ⟨w3.heap.size + 1, 0, none⟩) 0 0) 0 []) := Lib.hid (by
      have := World.ownsRow_lit (base := w3.heap.size) (e := 3) (size := 1) (w3.drew.alloc (.cells #[.int .i64 n] 3)) #[] 0 (by show _ ≤ _; simp) (Nat.zero_le _) rfl
      simpa using this)
    have N2 : Hid (At ((w3.drew.alloc (.cells #[] 3)).alloc (.cells #[.int .i64 n] 3)) (some ⟨w3.heap.size + 1, 0, none⟩) [.int .i64 n]) := Lib.hid (by simpa using at_one (w3.drew.alloc (.cells #[] 3)) n 3)
    have N3 : Hid (At ((w3.drew.alloc (.cells #[.int .i64 n] 3)).alloc (.cells #[] 3)) (some ⟨w3.heap.size, 0, none⟩) [.int .i64 n]) := Lib.hid ((at_one w3.drew n 3).below ((Below.refl _ _).alloc (Nat.le_refl _) _))
    have b0 : 0 + l.length ≤ maxLen := by unfold maxLen; omega
    have b1 : (0 + l.length) * 8 ≤ 140737488355328 := by omega
    have b2 : l.length + 1 ≤ maxLen := by unfold maxLen; omega
    have b3 : (l.length + 1) * 8 ≤ 140737488355328 := by omega
    have L1 := Lib.hid (show (intsV l).length = l.length * 1 by rw [intsV_length, Nat.mul_one])
    have B1 : Hid (∀ k, (Value.slice (some ⟨w3.heap.size, 0, none⟩) 0 0).ownBlock = some k → w3.heap.size ≤ k) := Lib.hid (fun k e => by simp only [Value.ownBlock, Option.some.injEq] at e; omega)
    have B3 : Hid (∀ k, (Value.slice (some ⟨w3.heap.size + 1, 0, none⟩) 0 0).ownBlock = some k → w3.heap.size ≤ k) := Lib.hid (fun k e => by simp only [Value.ownBlock, Option.some.injEq] at e; omega)
    have E2' : Hid (some (w3.heap.size + 1) ≠ (Value.slice (some ⟨w3.heap.size, 0, none⟩) 0 0).ownBlock) := Lib.hid (fun e => by simp only [Value.ownBlock, Option.some.injEq] at e; omega)
    have E3' : Hid (some w3.heap.size ≠ (Value.slice (some ⟨w3.heap.size + 1, 0, none⟩) 0 0).ownBlock) := Lib.hid (fun e => by simp only [Value.ownBlock, Option.some.injEq] at e; omega)
    go_region_law (first
      | (refine step_append_slice (by rfl) (.tmp 49) (.tmp 53) _ (by rfl) w3.heap.size 3 i0 _ 1 8 Try.underlying32 hi0 hz0 hz1 hz2 rfl (by decide) _ 0 [] (by rfl) (by first | exact O1.out | exact O2.out | exact O3.out) a l.length c (intsV l) (by rfl) L1.out HN0.out (by first | exact non_at K1.out HA.out | exact non_at K2.out HA.out | exact non_at K3'.out HA.out) (intsV_one _) b0 b1 (by first | exact K1.out.size | exact K2.out.size | exact K3'.out.size) ?_
         intro v5 w5 hown5 hgr5
         simp only [Nat.zero_add, List.nil_append] at hown5
         have K5 : Hid (Keeps Non w3 w5) := Lib.hid (by first | exact keeps_grown K1.out hgr5 B1.out | exact keeps_grown K2.out hgr5 B1.out | exact keeps_grown K3'.out hgr5 B3.out)
         first | have N5 := Lib.hid (at_grown N2.out hgr5 E2'.out) | have N5 := Lib.hid (at_grown N3.out hgr5 E3'.out) | skip
         have v5' := non_cell K5.out v1
         obtain ⟨a5, c5, rfl, _, _, _, _⟩ := own_at hown5
         have O5 := Lib.hid hown5
         clear hown5 hgr5)
      | (refine step_append_slice (by rfl) (.tmp 54) (.tmp 57) _ (by rfl) w3.heap.size 3 i0 _ 1 8 Try.underlying32 hi0 hz0 hz1 hz2 rfl (by decide) _ l.length (intsV l) (by rfl) (by first | exact O5.out | exact O5.out.alloc _) (some ⟨_, 0, none⟩) 1 1 [.int .i64 n] (by rfl) (by rfl) (fun e => by cases e) (by first | exact N5.out | exact at_one _ _ _) (intsV_one [_]) b2 b3 (by first | exact K5.out.size | exact (K5.out.alloc _).size) ?_
         intro v6 w6 hown6 hgr6
         have K6 : Hid (Keeps Non w3 w6) := Lib.hid (by first | exact keeps_grown K5.out hgr6 (own_base O5.out) | exact keeps_grown (K5.out.alloc _) hgr6 (own_base O5.out))
         have z6 := non_cell K6.out z1
         have f6 := (non_frozen (p := ⟨qb, 1, none⟩) K6.out hqb).trans zf
         obtain ⟨a6, c6, rfl, _, _, _, _⟩ := own_at hown6
         have O6 := Lib.hid hown6
         clear hown6 hgr6))
    all_goals
      have hP := E3.out.laid (non_below K6.out) (v := .slice a6 (l.length + 1) c6) (n := l.length + 1) (m' := l ++ [n]) (by simp) (by rw [intsV_append]; exact O6.out) (by simp; omega)
      have HP1 := Lib.hid hP.1
      have HP2 := Lib.hid hP.2
      clear hP
      go_wp2_with fail
      go_ret
      exact ⟨rfl, HP1.out.less HLL.out, K2_.out.trans (keeps_less (K3.out.trans HP2.out) HLL.out)⟩
  · obtain ⟨g3, o3, rfl⟩ := Q4.out.some_of (by simp [strsV])
    have x0 : w2.cell? ⟨g3, o3, none⟩ = some (.string x) := by simpa using Q4.out.get (j := 0) (u := .string x) (by simp [strsV])
    have hlen : (x :: r).length = r.length + 1 := rfl
    rw [hlen]
    generalize r.length = rn at *
    go_upto_region 5 with fail
    go_wp2_with (go_at_call 27; refine (HE2.out.callP fun ex hs => Push_si hs n hlt).mono ?_; rintro e w3 ⟨rfl, h3, k3⟩; have v1 := own_cell k3 HL2.out u1; have E3 := Lib.hid h3; have K3 := Lib.hid k3; clear h3 k3)
    obtain ⟨a, c, z1, hat, zf, hn0, hqb⟩ := E3.out.cells
    have HA := Lib.hid hat
    have HN0 := Lib.hid hn0
    have hlb := lt_of_cell v1
    clear hat hn0 u0 u1 u2 Q4 HN HL2 HE2
    obtain ⟨i0, hi0, hz0, hz1, hz2⟩ := info_parts stk_int
    have K1 : Hid (Keeps Non w3 (w3.drew.alloc (.cells #[] 3))) := Lib.hid ((Keeps.refl Non w3).drew.alloc _)
    have K4 : Hid (Keeps Non w3 (w3.drew.alloc (.cells #[.int .i64 n] 3))) := Lib.hid ((Keeps.refl Non w3).drew.alloc _)
    have K2 : Hid (Keeps Non w3 ((w3.drew.alloc (.cells #[] 3)).alloc (.cells #[.int .i64 n] 3))) := Lib.hid (((Keeps.refl Non w3).drew.alloc _).alloc _)
    have K3' : Hid (Keeps Non w3 ((w3.drew.alloc (.cells #[.int .i64 n] 3)).alloc (.cells #[] 3))) := Lib.hid (((Keeps.refl Non w3).drew.alloc _).alloc _)
    have O1 : Hid ((w3.drew.alloc (.cells #[] 3)).ownsRow w3.heap.size 3 1 (.slice (some ⟨w3.heap.size, 0, none⟩) 0 0) 0 []) := Lib.hid (World.ownsRow_lit w3.drew #[] 0 (Nat.le_refl _) (Nat.zero_le _) rfl)
    have O2 := Lib.hid (O1.out.alloc (.cells #[.int .i64 n] 3))
    have O3 : Hid (((w3.drew.alloc (.cells #[.int .i64 n] 3)).alloc (.cells #[] 3)).ownsRow w3.heap.size 3 1 (.slice (some ⟨w3.heap.size + 1, 0, none⟩) 0 0) 0 []) := Lib.hid (by
      have := World.ownsRow_lit (base := w3.heap.size) (e := 3) (size := 1) (w3.drew.alloc (.cells #[.int .i64 n] 3)) #[] 0 (by show _ ≤ _; simp) (Nat.zero_le _) rfl
      simpa using this)
    have N2 : Hid (At ((w3.drew.alloc (.cells #[] 3)).alloc (.cells #[.int .i64 n] 3)) (some ⟨w3.heap.size + 1, 0, none⟩) [.int .i64 n]) := Lib.hid (by simpa using at_one (w3.drew.alloc (.cells #[] 3)) n 3)
    have N3 : Hid (At ((w3.drew.alloc (.cells #[.int .i64 n] 3)).alloc (.cells #[] 3)) (some ⟨w3.heap.size, 0, none⟩) [.int .i64 n]) := Lib.hid ((at_one w3.drew n 3).below ((Below.refl _ _).alloc (Nat.le_refl _) _))
    have b0 : 0 + l.length ≤ maxLen := by unfold maxLen; omega
    have b1 : (0 + l.length) * 8 ≤ 140737488355328 := by omega
    have b2 : l.length + 1 ≤ maxLen := by unfold maxLen; omega
    have b3 : (l.length + 1) * 8 ≤ 140737488355328 := by omega
    have L1 := Lib.hid (show (intsV l).length = l.length * 1 by rw [intsV_length, Nat.mul_one])
    have B1 : Hid (∀ k, (Value.slice (some ⟨w3.heap.size, 0, none⟩) 0 0).ownBlock = some k → w3.heap.size ≤ k) := Lib.hid (fun k e => by simp only [Value.ownBlock, Option.some.injEq] at e; omega)
    have B3 : Hid (∀ k, (Value.slice (some ⟨w3.heap.size + 1, 0, none⟩) 0 0).ownBlock = some k → w3.heap.size ≤ k) := Lib.hid (fun k e => by simp only [Value.ownBlock, Option.some.injEq] at e; omega)
    have E2' : Hid (some (w3.heap.size + 1) ≠ (Value.slice (some ⟨w3.heap.size, 0, none⟩) 0 0).ownBlock) := Lib.hid (fun e => by simp only [Value.ownBlock, Option.some.injEq] at e; omega)
    have E3' : Hid (some w3.heap.size ≠ (Value.slice (some ⟨w3.heap.size + 1, 0, none⟩) 0 0).ownBlock) := Lib.hid (fun e => by simp only [Value.ownBlock, Option.some.injEq] at e; omega)
    go_region_law (first
      | (refine step_append_slice (by rfl) (.tmp 49) (.tmp 53) _ (by rfl) w3.heap.size 3 i0 _ 1 8 Try.underlying32 hi0 hz0 hz1 hz2 rfl (by decide) _ 0 [] (by rfl) (by first | exact O1.out | exact O2.out | exact O3.out) a l.length c (intsV l) (by rfl) L1.out HN0.out (by first | exact non_at K1.out HA.out | exact non_at K2.out HA.out | exact non_at K3'.out HA.out) (intsV_one _) b0 b1 (by first | exact K1.out.size | exact K2.out.size | exact K3'.out.size) ?_
         intro v5 w5 hown5 hgr5
         simp only [Nat.zero_add, List.nil_append] at hown5
         have K5 : Hid (Keeps Non w3 w5) := Lib.hid (by first | exact keeps_grown K1.out hgr5 B1.out | exact keeps_grown K2.out hgr5 B1.out | exact keeps_grown K3'.out hgr5 B3.out)
         first | have N5 := Lib.hid (at_grown N2.out hgr5 E2'.out) | have N5 := Lib.hid (at_grown N3.out hgr5 E3'.out) | skip
         have v5' := non_cell K5.out v1
         obtain ⟨a5, c5, rfl, _, _, _, _⟩ := own_at hown5
         have O5 := Lib.hid hown5
         clear hown5 hgr5)
      | (refine step_append_slice (by rfl) (.tmp 54) (.tmp 57) _ (by rfl) w3.heap.size 3 i0 _ 1 8 Try.underlying32 hi0 hz0 hz1 hz2 rfl (by decide) _ l.length (intsV l) (by rfl) (by first | exact O5.out | exact O5.out.alloc _) (some ⟨_, 0, none⟩) 1 1 [.int .i64 n] (by rfl) (by rfl) (fun e => by cases e) (by first | exact N5.out | exact at_one _ _ _) (intsV_one [_]) b2 b3 (by first | exact K5.out.size | exact (K5.out.alloc _).size) ?_
         intro v6 w6 hown6 hgr6
         have K6 : Hid (Keeps Non w3 w6) := Lib.hid (by first | exact keeps_grown K5.out hgr6 (own_base O5.out) | exact keeps_grown (K5.out.alloc _) hgr6 (own_base O5.out))
         have z6 := non_cell K6.out z1
         have f6 := (non_frozen (p := ⟨qb, 1, none⟩) K6.out hqb).trans zf
         obtain ⟨a6, c6, rfl, _, _, _, _⟩ := own_at hown6
         have O6 := Lib.hid hown6
         clear hown6 hgr6))
    all_goals
      have hP := E3.out.laid (non_below K6.out) (v := .slice a6 (l.length + 1) c6) (n := l.length + 1) (m' := l ++ [n]) (by simp) (by rw [intsV_append]; exact O6.out) (by simp; omega)
      have HP1 := Lib.hid hP.1
      have HP2 := Lib.hid hP.2
      clear hP
      go_wp2_with fail
      go_ret
      exact ⟨rfl, HP1.out.less HLL.out, K2_.out.trans (keeps_less (K3.out.trans HP2.out) HLL.out)⟩
end
end Go.Proofs.Ytidbihdnginmcaa
