/-
  The walk of ForeignNames: it returns true; the world behind has new blocks alone. The list has at most 1048576 elements.
-/
import Derived.Test.YtflphgmblipglaaForI
import Derived.Test.YtflphgmblipglaaForM
import Derived.Test.YtflphgmblipglaaMemC
namespace Go.Proofs.Ytflphgmblipglaa
open Go.RowKit Mem

theorem sameAttrs_n (l r : List Pair) (a a' : Option Addr) (n m c c' : Nat) (w : World) (hn : n = l.length) (hm : m = r.length) (hl : l.length ≤ maxLen) (hr : r.length ≤ maxLen) (ha : At w a (pairsV l)) (ha' : At w a' (pairsV r)) :
    Calls Try.prog 23 #[.slice a n c, .slice a' m c'] w fun e w' => e = .returned (.bool (samePairs l r)) ∧ ∃ n, w' = w.drewN n := by
  subst hn hm
  exact sameAttrs_any l r a a' c c' w hl hr ha ha'
theorem below_drewN (w : World) (n : Nat) : Below w.heap.size w (w.drewN n) := ⟨rfl, rfl, rfl, Nat.le_refl _, fun _ _ => rfl⟩
def bang : Pair := (⟨#[33]⟩, ⟨#[]⟩)

set_option maxRecDepth 100000 in
set_option maxHeartbeats 4000000 in
theorem lawNames (space : Int) (name : ByteArray) (l : List Pair) (a : Option Addr) (c : Nat) (w : World) (hl : l.length ≤ 1048576) (hac : a = none → c = 0) (ha : At w a (pairsV l)) :
    Calls Try.prog 6 #[.int .i64 space, .string name, .slice a l.length c] w fun e w' => e = .returned (.bool true) ∧ Below w.heap.size w w' := by
  obtain ⟨i0, hi, hz0, hz1, hz2⟩ := info_parts info_attr
  have b0 : 0 + l.length ≤ maxLen := by unfold maxLen; omega
  have b1 : (0 + l.length) * 32 ≤ 140737488355328 := by omega
  have b2 : l.length + 1 ≤ maxLen := by unfold maxLen; omega
  have b3 : (l.length + 1) * 32 ≤ 140737488355328 := by omega
  have b4 : l.length ≤ 2097152 := by omega
  have HC := Lib.hid hac
  have HA := Lib.hid ha
  clear ha hac
  go_enter Try.func6, Try.ntmps6
  go_wp2_with fail
  refine (shown16_any _).mono ?_
  rintro e w1 ⟨rfl, hb1⟩
  have HE : Hid ((w1.alloc (.cells #[] 31)).ownsRow w.heap.size 31 2 (.slice (some ⟨w1.heap.size, 0, none⟩) 0 0) 0 []) := World.ownsRow_lit w1 #[] 0 hb1.size (Nat.zero_le _) rfl
  have HA1 := Lib.hid ((HA.out.below hb1).below ((Below.refl _ _).alloc (Nat.le_refl _) (.cells #[] 31)))
  have HZ1 : Hid (w.heap.size ≤ (w1.alloc (.cells #[] 31)).heap.size) := by show _ ≤ _; have := hb1.size; simp; omega
  have HB1 := Lib.hid (hb1.alloc hb1.size (.cells #[] 31))
  clear hb1
  go_wp2_with (first | (at_builtin; refine wpList_append_slice _ rfl (.tmp 16) (.tmp 17) 22 rfl w.heap.size 31 i0 _ 2 32 Try.underlying22 hi hz0 hz1 hz2 rfl (by decide) _ 0 [] rfl HE.out a l.length c (pairsV l) rfl (pairsV_length l) HC.out HA1.out (pairsV_one l) b0 b1 HZ1.out ?_; intro v2 w2 hown2 hgr2; simp only [Nat.zero_add, List.nil_append] at hown2; have HB2 := Lib.hid (HB1.out.grown hgr2 HZ1.out (fun b h => (HE.out.lt b h).1)); have HQ := Lib.hid (hown2.alloc (.cells #[.string ⟨#[33]⟩, .string ⟨#[]⟩] 31)); have HN := Lib.hid (news_two (w := w2) rfl (.string ⟨#[33]⟩) (.string ⟨#[]⟩) 31); have HZ2 : Hid (w.heap.size ≤ (w2.alloc (.cells #[.string ⟨#[33]⟩, .string ⟨#[]⟩] 31)).heap.size) := (by show _ ≤ _; have := HB2.out.size; simp; omega); clear hown2 hgr2) | (at_builtin; refine wpList_append_own _ rfl (.tmp 18) (.tmp 20) 22 rfl w.heap.size 31 i0 _ 2 32 Try.underlying22 hi hz0 hz1 hz2 rfl (by decide) _ l.length _ rfl HQ.out _ 1 1 [.string ⟨#[33]⟩, .string ⟨#[]⟩] rfl rfl HN.out (two_one bang) b2 b3 HZ2.out ?_; intro v4 w4 hown4 hgr4 _; have HB4 := Lib.hid ((HB2.out.alloc HB2.out.size (.cells #[.string ⟨#[33]⟩, .string ⟨#[]⟩] 31)).grown hgr4 HZ2.out (fun b h => (HQ.out.lt b h).1)); have HO4 := Lib.hid hown4; clear hown4 hgr4))
  obtain ⟨g, cap, hv, hg, hcap, _⟩ := own_some HO4.out (by omega)
  subst hv
  have hcl : l.length ≤ cap := by omega
  have HR4 : Hid (Row w4 g (pairsV (l ++ [bang]))) := by show Row _ _ _; rw [pairsV_append]; exact own_row HO4.out
  clear hcap hg
  refine (refAttrs_any space l a c _ b4 (HA.out.below HB4.out)).mono ?_
  rintro e w5 ⟨v5, rfl, ho5, hb5⟩
  obtain ⟨a5, c5, hv5, _, _, _, hat5⟩ := own_at ho5
  subst hv5
  have HR5 := Lib.hid (HR4.out.below hb5 HR4.out.lt)
  have HW5 := Lib.hid hat5
  have HB5 := Lib.hid (belowCall HB4.out hb5)
  clear hb5 ho5 hat5
  clear HE HA1 HZ1 HB1 HQ HN HZ2 HB2 HB4 HO4 HR4
  have hal : l.length = (attrsF space l).length := by simp [attrsF]
  have ham : (attrsF space l).length ≤ maxLen := by rw [← hal]; unfold maxLen; omega
  have HAL := Lib.hid hal
  have HAM := Lib.hid ham
  clear hal ham
  go_wp2_with fail
  go_loopw [10] (fun j wr => ∃ k : Nat, k ≤ 2 ∧ j = .int .i64 k ∧ Below w5.heap.size w5 wr) (fun j _ => 2 - (intOf j).toNat)
  case atStart => exact ⟨0, by omega, rfl, Below.refl _ _⟩
  case round =>
    obtain ⟨k, hk, rfl, hb⟩ := hrel
    have HB := Lib.hid hb
    have HRr := Lib.hid (HR5.out.below hb HR5.out.lt)
    have HWr := Lib.hid (HW5.out.below hb)
    clear hb
    by_cases hlt : k < 2
    · go_wp2_with fail
      have HAT := Lib.hid HRr.out.at
      refine (attrs_any space l (some ⟨g, 0, none⟩) cap _ b4 (At.left (ys := pairsV [bang]) (by rw [← pairsV_append]; exact HAT.out))).mono ?_
      rintro e w6 ⟨v6, rfl, ho6, hb6⟩
      obtain ⟨a6, c6, hv6, _, _, _, hat6⟩ := own_at ho6
      have HO6 := Lib.hid ho6
      have HB6 := Lib.hid hb6
      have HW6 := Lib.hid (HWr.out.below hb6)
      have HT6 := Lib.hid hat6
      subst hv6
      clear ho6 hb6 hat6
      go_wp2_with fail
      refine (sameAttrs_n (attrsF space l) (attrsF space l) a6 a5 _ _ c6 c5 _ HAL.out HAL.out HAM.out HAM.out HT6.out HW6.out).mono ?_
      rintro e w7 ⟨he, n7, hw7⟩
      rw [samePairs_self] at he
      subst he
      have hb7 : Below w6.heap.size w6 w7 := by rw [hw7]; exact below_drewN _ _
      have HQ7 := Lib.hid ((own_below HO6.out hb7).alloc (.cells #[.string ⟨#[]⟩, .string ⟨#[]⟩] 31))
      have HN7 := Lib.hid (news_two (w := w7) rfl (.string ⟨#[]⟩) (.string ⟨#[]⟩) 31)
      have HB7 := Lib.hid (belowCall HB6.out hb7)
      have HZ7 : Hid (wr.heap.size ≤ (w7.alloc (.cells #[.string ⟨#[]⟩, .string ⟨#[]⟩] 31)).heap.size) := by show _ ≤ _; have := HB7.out.size; simp; omega
      clear hb7 hw7
      go_wp2_with (at_builtin; refine wpList_append_own _ rfl (.tmp 40) (.tmp 42) 22 rfl wr.heap.size 31 i0 _ 2 32 Try.underlying22 hi hz0 hz1 hz2 rfl (by decide) _ l.length _ rfl HQ7.out _ 1 1 [.string ⟨#[]⟩, .string ⟨#[]⟩] rfl rfl HN7.out (two_one (⟨#[]⟩, ⟨#[]⟩)) b2 b3 HZ7.out ?_; intro v8 w8 hown8 hgr8 _; have HB8 := Lib.hid ((HB7.out.alloc HB7.out.size (.cells #[.string ⟨#[]⟩, .string ⟨#[]⟩] 31)).grown hgr8 HZ7.out (fun b h => (HQ7.out.lt b h).1)); have HO8 := Lib.hid hown8; clear hown8 hgr8; obtain ⟨g8, cap8, hv8, hg8, _, _⟩ := own_some HO8.out (by omega); subst hv8)
      obtain ⟨wo, rfl⟩ : ∃ wo : World, wo = wr := ⟨_, rfl⟩
      clear HQ7 HN7 HZ7 HB7 HT6 HW6 HO6 HB6 HRr HWr HAT
      go_loopw [13] (fun i wi => ∃ (m : Nat) (L : List Pair), m ≤ l.length + 1 ∧ i = .int .i64 m ∧ Below wo.heap.size wo wi ∧ L.length = l.length + 1 ∧ wi.ownsRow wo.heap.size 31 2 (.slice (some ⟨g8, 0, none⟩) (l.length + 1) cap8) (l.length + 1) (pairsV L)) (fun i _ => l.length + 1 - (intOf i).toNat)
      case atStart =>
        refine ⟨0, attrsF space l ++ [(⟨#[]⟩, ⟨#[]⟩)], Nat.zero_le _, rfl, HB8.out, by simp [attrsF], ?_⟩
        rw [pairsV_append]
        exact HO8.out
      case round =>
        obtain ⟨m, L, hm, rfl, hb, hL, ho⟩ := hrel
        clear HB8 HO8
        have HBi := Lib.hid hb
        have HOi := Lib.hid ho
        have HLi := Lib.hid hL
        clear hb hL
        by_cases hmt : m < l.length + 1
        · have hmL : m < L.length := by rw [HLi.out]; exact hmt
          have g1 := (own_row ho).cell (pairsV_get0 L m hmL)
          have g2 := (own_row ho).cell (pairsV_get1 L m hmL)
          have f1 : wr.frozen? ⟨g8, m * 2, none⟩ = false := ho.frozenAt _
          have f2 : wr.frozen? ⟨g8, m * 2 + 1, none⟩ = false := ho.frozenAt _
          clear ho
          go_wp2_with fail
          go_roundw
          case rel =>
            refine ⟨m + 1, L.set m (⟨#[63]⟩, ⟨#[]⟩), by omega, by go_num, (HBi.out.setCell hg8 _).setCell hg8 _, by rw [List.length_set]; exact HLi.out, ?_⟩
            rw [← pairsV_set]
            exact ((HOi.out.stored (m * 2) _).1.stored (m * 2 + 1) _).1
          case measure => simp [intOf]; omega
        · clear ho
          go_wp2_with fail
          go_roundw
          case rel => exact ⟨k + 1, by omega, by go_num, belowCall HB.out HBi.out⟩
          case measure => simp [intOf]; omega
    · obtain rfl : k = 2 := by omega
      go_wp2_with fail
      have HAT := Lib.hid HRr.out.at
      have hlm : l.length ≤ maxLen := by unfold maxLen; omega
      have HB6 := Lib.hid (belowCall HB5.out HB.out)
      refine (sameAttrs_n l l (some ⟨g, 0, none⟩) a _ _ cap c _ rfl rfl hlm hlm (At.left (ys := pairsV [bang]) (by rw [← pairsV_append]; exact HAT.out)) (HA.out.below HB6.out)).mono ?_
      rintro e w7 ⟨he, n7, hw7⟩
      rw [samePairs_self] at he
      subst he
      have hb7 : Below wr.heap.size wr w7 := by rw [hw7]; exact below_drewN _ _
      have g1 : w7.cell? ⟨g, l.length * 2, none⟩ = some (.string ⟨#[33]⟩) := by
        have h := (HRr.out.below hb7 HRr.out.lt).cell (pairsV_get0 (l ++ [bang]) l.length (by simp))
        simpa [bang] using h
      have HB7 := Lib.hid (belowCall HB6.out hb7)
      clear hb7 hw7
      go_wp2_with (first | (go_at_call 24; refine (name_any space name _).mono ?_; rintro e w8 ⟨rfl, hb8⟩; have HB8 := Lib.hid hb8; clear hb8) | (go_at_call 25; refine (refName_any space name _).mono ?_; rintro e w9 ⟨rfl, hb9⟩; have HB9 := Lib.hid hb9; clear hb9))
      go_ret
      exact ⟨rfl, belowCall (belowCall HB7.out HB8.out) HB9.out⟩
end Go.Proofs.Ytflphgmblipglaa
