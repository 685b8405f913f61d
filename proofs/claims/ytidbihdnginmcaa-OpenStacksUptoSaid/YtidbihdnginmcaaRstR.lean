/-
  Law 14's act: any other kind: all that is open. No conditions beyond those that each lemma types.
-/
import Derived.Test.YtidbihdnginmcaaRstMO
import Derived.Test.YtidbihdnginmcaaIntsA
namespace Go.Proofs.Ytidbihdnginmcaa
open Go.RowKit Mem

section
variable {w0 w : World} {B C tb rb sb qb : Nat} {T : TreeD} {l : List Int} {L : Nat → Prop}
set_option maxRecDepth 100000 in
theorem act_other (h : DS w0 B C tb rb sb qb T T l l L w) (kd n m : Int) (names : List ByteArray) (aa : Option Addr) (ac : Nat) (hn : names.length ≤ 1048576) (k0 : (kd == 0) = false) (k1 : (kd == 1) = false) (k2 : (kd == 2) = false) (k3 : (kd == 3) = false) (k4 : (kd == 4) = false) (k5 : (kd == 5) = false) (k6 : (kd == 6) = false) (k7 : (kd == 7) = false) (k8 : (kd == 8) = false) (k9 : (kd == 9) = false) (k10 : (kd == 10) = false) (hc : aa = none → ac = 0) (ha : At w aa (strsV names)) :
    Calls Try.prog 32 #[.pointer (some ⟨sb, 0, none⟩), .pointer (some ⟨qb, 0, none⟩), .agg #[.int .i64 kd, .int .i64 n, .int .i64 m, .slice aa names.length ac]] w fun e w' =>
      e = .returned (.bool true) ∧ DS w0 B C tb rb sb qb T T l l L w' ∧ Keeps (Own w0 L) w w' := by
  have hB := heap_alloc_new w (.cells #[.int .i64 kd, .int .i64 n, .int .i64 m, .slice aa names.length ac] 68)
  have hb1 := (Below.refl w.heap.size w).alloc (Nat.le_refl _) (.cells #[.int .i64 kd, .int .i64 n, .int .i64 m, .slice aa names.length ac] 68)
  have hz1 : w.heap.size < (w.alloc (.cells #[.int .i64 kd, .int .i64 n, .int .i64 m, .slice aa names.length ac] 68)).heap.size := by simp
  go_enter Try.func32, Try.ntmps32
  go_upto_region 1 with fail
  generalize w.alloc (.cells #[.int .i64 kd, .int .i64 n, .int .i64 m, .slice aa names.length ac] 68) = w1 at *
  obtain ⟨r0, r1, r2, r3⟩ := cells4r hB
  have A1 := Lib.hid ((ha.below hb1).below ((Below.refl w1.heap.size w1).alloc (Nat.le_refl _) (.cells #[] 9)))
  have HE : Hid ((w1.alloc (.cells #[] 9)).ownsRow w1.heap.size 9 1 (.slice (some ⟨w1.heap.size, 0, none⟩) 0 0) 0 []) := World.ownsRow_lit w1 #[] 0 (Nat.le_refl _) (Nat.zero_le _) rfl
  have HC := Lib.hid hc
  obtain ⟨i0, hi, hz0, hz1', hz2⟩ := info_parts info_str1
  have b0 : 0 + names.length ≤ maxLen := by unfold maxLen; omega
  have b1 : (0 + names.length) * 16 ≤ 140737488355328 := by omega
  have HNL := Lib.hid (show (strsV names).length = names.length * 1 by rw [strsV_length, Nat.mul_one])
  have HZ : Hid (w1.heap.size ≤ (w1.alloc (.cells #[] 9)).heap.size) := by show _ ≤ _; simp
  have HB1 := Lib.hid hb1
  have HD := Lib.hid h
  have HZ1 := Lib.hid hz1
  have R0 := Lib.hid r0
  have R1 := Lib.hid r1
  have R2 := Lib.hid r2
  have B2 := Lib.hid ((Below.refl w1.heap.size w1).alloc (Nat.le_refl _) (.cells #[] 9))
  have r3' := cell_later B2.out r3
  clear h hb1 hB ha hc hz1 r0 r1 r2
  go_upto_region 2 with (at_builtin; go_must (refine wpList_append_slice _ rfl _ _ 51 rfl w1.heap.size 9 i0 _ 1 16 Try.underlying51 hi hz0 hz1' hz2 rfl (by decide) _ 0 [] rfl HE.out aa names.length ac (strsV names) rfl HNL.out HC.out A1.out (strsV_one names) b0 b1 HZ.out ?_; intro v2 w2 hown2 hgr2; simp only [Nat.zero_add, List.nil_append] at hown2; have HO2 := Lib.hid hown2; have HG2 := Lib.hid hgr2; clear hown2 hgr2))
  have hb3 : Below w1.heap.size w1 w2 := B2.out.grown HG2.out HZ.out (fun b hb => (HE.out.lt b hb).1)
  have hb4 : Below w.heap.size w w2 := HB1.out.trans (hb3.mono HB1.out.size)
  have E2 := HD.out.lay hb4
  have u0 := cell_later hb3 R0.out
  have u1 := cell_later hb3 R1.out
  have u2 := cell_later hb3 R2.out
  have K2 : Hid (Keeps (Own w0 L) w w2) := Lib.hid (Keeps.ofBelow hb4)
  obtain ⟨L2, hL2⟩ : ∃ L2 : Nat → Prop, L2 = fun k => L k ∨ (w.heap.size ≤ k ∧ k < w2.heap.size) := ⟨_, rfl⟩
  rw [← hL2] at E2
  have HLL := Lib.hid (show ∀ k, L k → L2 k by rw [hL2]; exact fun k hk => .inl hk)
  have HL2 := Lib.hid (show L2 w.heap.size by rw [hL2]; exact .inr ⟨Nat.le_refl _, Nat.lt_of_lt_of_le HZ1.out hb3.size⟩)
  have HE2 := Lib.hid E2
  obtain ⟨a3, c3, rfl, q1, q2, q3, q4⟩ := own_at HO2.out
  have HN : Hid (∀ b o s, a3 = some ⟨b, o, s⟩ → L2 b) := Lib.hid (by
    rintro b o s rfl
    obtain ⟨p1, p2⟩ := HO2.out.lt b rfl
    rw [hL2]
    exact .inr ⟨Nat.le_trans HB1.out.size p1, p2⟩)
  have Q4 := Lib.hid q4
  clear HO2 HG2 HE HZ HNL A1 HC B2 HB1 hb3 hb4 E2 R0 R1 R2 q1 q2 q3 q4 r3' hL2 HD HZ1
  obtain ⟨exA, hsA⟩ := HE2.out.si
  have HAll := Lib.hid (All_si hsA)
  have hsh := HE2.out.short
  clear hsA
  rcases names with _ | ⟨x, r⟩
  · go_wp2_with fail
    refine HAll.out.mono ?_
    rintro e w3 ⟨v3, rfl, ho3, hb3⟩
    obtain ⟨a4, c4, rfl, m1, m2, m3, m4⟩ := own_at ho3
    have E3 := Lib.hid (HE2.out.lay hb3)
    obtain ⟨a5, c5, z1, z2, _, _, _⟩ := E3.out.cells
    have HO3 := Lib.hid ho3
    have HM4 := Lib.hid m4
    have HZ2 := Lib.hid z2
    have HB3 := Lib.hid hb3
    clear ho3 hb3 m3 m4 z2
    go_wp2_with fail
    refine (ints14_any l l a4 a5 c4 c5 _ (by unfold maxLen; omega) HM4.out HZ2.out).mono ?_
    rintro e w4 ⟨he, q, rfl⟩
    rw [decide_eq_true (rfl : l = l)] at he
    subst he
    go_wp2_with fail
    have hbq := stk_drewN w3 q
    obtain ⟨L3, hL3⟩ : ∃ L3 : Nat → Prop, L3 = fun k => L2 k ∨ (w2.heap.size ≤ k ∧ k < w3.heap.size) := ⟨_, rfl⟩
    have E3' := E3.out
    rw [← hL3] at E3'
    have HGL : Hid (∀ g, (Value.slice a4 l.length c4).ownBlock = some g → L3 g ∧ w2.heap.size ≤ g) := Lib.hid (fun g hg => by
      obtain ⟨p1, p2⟩ := HO3.out.lt g hg
      rw [hL3]
      exact ⟨.inr ⟨p1, p2⟩, p1⟩)
    have HL3 := Lib.hid (show ∀ k, L k → L3 k by rw [hL3]; exact fun k hk => .inl (HLL.out k hk))
    have E4 := Lib.hid (E3'.world hbq)
    have K4 : Hid (Keeps (fun k => w2.heap.size ≤ k) w2 (w3.drewN q)) := Lib.hid (Keeps.ofBelow (belowCall HB3.out hbq))
    have O4 := Lib.hid (own_below HO3.out hbq)
    clear hbq E3' hL3 HO3 HB3 E3 HM4 HZ2 z1 u0 u1 u2 Q4 HN HL2 HE2 HAll
    generalize w3.drewN q = w4 at *
    obtain ⟨wo, hwo⟩ : ∃ wo : World, wo = w4 := ⟨_, rfl⟩
    go_loopw [11] (fun i wi => ∃ (k : Nat) (r : List Int), k ≤ l.length ∧ i = .int .i64 k ∧ r.length = l.length ∧ wi.ownsRow w2.heap.size 3 1 (.slice a4 l.length c4) l.length (intsV r) ∧ DS w0 B C tb rb sb qb T T l l L3 wi ∧ Keeps (fun k => w2.heap.size ≤ k) w2 wi) (fun i _ => l.length - (intOf i).toNat)
    case atStart => exact ⟨0, l, Nat.zero_le _, rfl, rfl, O4.out, E4.out, K4.out⟩
    case round =>
      obtain ⟨k, r, hk, rfl, hr, ho, hE, hK⟩ := hrel
      have HOi := Lib.hid ho
      have HRi := Lib.hid hr
      have HEi := Lib.hid hE
      have HKi := Lib.hid hK
      clear hr hE hK E4 K4 O4
      by_cases hlt' : k < l.length
      · obtain ⟨g, rfl, hg⟩ : ∃ g, a4 = some ⟨g, 0, none⟩ ∧ (Value.slice a4 l.length c4).ownBlock = some g := by
          rcases ho.2 with ⟨e, hn⟩ | ⟨g, cap, cur, e, _⟩
          · omega
          · cases e
            exact ⟨g, rfl, rfl⟩
        obtain ⟨hg1, hg2⟩ := HGL.out g hg
        have HG1 := Lib.hid hg1
        have HG2 := Lib.hid hg2
        have hkr : k < r.length := by rw [HRi.out]; exact hlt'
        have g1 := (own_row ho).cell (intsV_get r k hkr)
        have f1 : wr.frozen? ⟨g, k, none⟩ = false := ho.frozenAt _
        clear ho hg hg1 hg2
        go_wp2_with fail
        go_roundw
        case rel => exact ⟨k + 1, r.set k (-9), by omega, by go_num, by rw [List.length_set]; exact HRi.out, by rw [intsV_put]; exact (HOi.out.stored k _).1, HEi.out.write ((Keeps.refl L3 wr).set (p := ⟨g, k, none⟩) (.inl HG1.out) _), HKi.out.set (p := ⟨g, k, none⟩) (.inl HG2.out) _⟩
        case measure => simp [intOf]; omega
      · clear ho
        go_wp2_with fail
        go_ret
        exact ⟨rfl, HEi.out.less HL3.out, K2.out.trans (Keeps.ofBelow (HKi.out.below (fun k hk hx => by omega) (Nat.le_refl _)))⟩
  · obtain ⟨g3, o3, rfl⟩ := Q4.out.some_of (by simp [strsV])
    have x0 : w2.cell? ⟨g3, o3, none⟩ = some (.string x) := by simpa using Q4.out.get (j := 0) (u := .string x) (by simp [strsV])
    have hlen : (x :: r).length = r.length + 1 := rfl
    rw [hlen]
    generalize r.length = rn at *
    go_wp2_with fail
    refine HAll.out.mono ?_
    rintro e w3 ⟨v3, rfl, ho3, hb3⟩
    obtain ⟨a4, c4, rfl, m1, m2, m3, m4⟩ := own_at ho3
    have E3 := Lib.hid (HE2.out.lay hb3)
    obtain ⟨a5, c5, z1, z2, _, _, _⟩ := E3.out.cells
    have HO3 := Lib.hid ho3
    have HM4 := Lib.hid m4
    have HZ2 := Lib.hid z2
    have HB3 := Lib.hid hb3
    clear ho3 hb3 m3 m4 z2
    go_wp2_with fail
    refine (ints14_any l l a4 a5 c4 c5 _ (by unfold maxLen; omega) HM4.out HZ2.out).mono ?_
    rintro e w4 ⟨he, q, rfl⟩
    rw [decide_eq_true (rfl : l = l)] at he
    subst he
    go_wp2_with fail
    have hbq := stk_drewN w3 q
    obtain ⟨L3, hL3⟩ : ∃ L3 : Nat → Prop, L3 = fun k => L2 k ∨ (w2.heap.size ≤ k ∧ k < w3.heap.size) := ⟨_, rfl⟩
    have E3' := E3.out
    rw [← hL3] at E3'
    have HGL : Hid (∀ g, (Value.slice a4 l.length c4).ownBlock = some g → L3 g ∧ w2.heap.size ≤ g) := Lib.hid (fun g hg => by
      obtain ⟨p1, p2⟩ := HO3.out.lt g hg
      rw [hL3]
      exact ⟨.inr ⟨p1, p2⟩, p1⟩)
    have HL3 := Lib.hid (show ∀ k, L k → L3 k by rw [hL3]; exact fun k hk => .inl (HLL.out k hk))
    have E4 := Lib.hid (E3'.world hbq)
    have K4 : Hid (Keeps (fun k => w2.heap.size ≤ k) w2 (w3.drewN q)) := Lib.hid (Keeps.ofBelow (belowCall HB3.out hbq))
    have O4 := Lib.hid (own_below HO3.out hbq)
    clear hbq E3' hL3 HO3 HB3 E3 HM4 HZ2 z1 u0 u1 u2 Q4 HN HL2 HE2 HAll
    generalize w3.drewN q = w4 at *
    obtain ⟨wo, hwo⟩ : ∃ wo : World, wo = w4 := ⟨_, rfl⟩
    go_loopw [11] (fun i wi => ∃ (k : Nat) (r : List Int), k ≤ l.length ∧ i = .int .i64 k ∧ r.length = l.length ∧ wi.ownsRow w2.heap.size 3 1 (.slice a4 l.length c4) l.length (intsV r) ∧ DS w0 B C tb rb sb qb T T l l L3 wi ∧ Keeps (fun k => w2.heap.size ≤ k) w2 wi) (fun i _ => l.length - (intOf i).toNat)
    case atStart => exact ⟨0, l, Nat.zero_le _, rfl, rfl, O4.out, E4.out, K4.out⟩
    case round =>
      obtain ⟨k, r, hk, rfl, hr, ho, hE, hK⟩ := hrel
      have HOi := Lib.hid ho
      have HRi := Lib.hid hr
      have HEi := Lib.hid hE
      have HKi := Lib.hid hK
      clear hr hE hK E4 K4 O4
      by_cases hlt' : k < l.length
      · obtain ⟨g, rfl, hg⟩ : ∃ g, a4 = some ⟨g, 0, none⟩ ∧ (Value.slice a4 l.length c4).ownBlock = some g := by
          rcases ho.2 with ⟨e, hn⟩ | ⟨g, cap, cur, e, _⟩
          · omega
          · cases e
            exact ⟨g, rfl, rfl⟩
        obtain ⟨hg1, hg2⟩ := HGL.out g hg
        have HG1 := Lib.hid hg1
        have HG2 := Lib.hid hg2
        have hkr : k < r.length := by rw [HRi.out]; exact hlt'
        have g1 := (own_row ho).cell (intsV_get r k hkr)
        have f1 : wr.frozen? ⟨g, k, none⟩ = false := ho.frozenAt _
        clear ho hg hg1 hg2
        go_wp2_with fail
        go_roundw
        case rel => exact ⟨k + 1, r.set k (-9), by omega, by go_num, by rw [List.length_set]; exact HRi.out, by rw [intsV_put]; exact (HOi.out.stored k _).1, HEi.out.write ((Keeps.refl L3 wr).set (p := ⟨g, k, none⟩) (.inl HG1.out) _), HKi.out.set (p := ⟨g, k, none⟩) (.inl HG2.out) _⟩
        case measure => simp [intOf]; omega
      · clear ho
        go_wp2_with fail
        go_ret
        exact ⟨rfl, HEi.out.less HL3.out, K2.out.trans (Keeps.ofBelow (HKi.out.below (fun k hk hx => by omega) (Nat.le_refl _)))⟩
end
end Go.Proofs.Ytidbihdnginmcaa
