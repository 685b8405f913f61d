/-
  Contract: law 13's word: small letters and digits of a raw text.
-/
import Derived.Test.YtbabcohidpcjjaaMkRd
import Derived.Test.YtbabcohidpcjjaaMkPlt
namespace Go.Proofs.Ytbabcohidpcjjaa
open Go.RowKit Mem

def alphB : ByteArray := ⟨#[97, 98, 99, 100, 101, 102, 103, 104, 105, 106, 107, 108, 109, 110, 111, 112, 113, 114, 115, 116, 117, 118, 119, 120, 121, 122, 48, 49, 50, 51, 52, 53, 54, 55, 56, 57]⟩
theorem alph_lt (c : UInt8) : c.toNat % 36 < alphB.size := Nat.mod_lt c.toNat (show 36 > 0 by decide)
def alphF (c : UInt8) : UInt8 := alphB[c.toNat % 36]'(alph_lt c)
theorem alphF_nm (c : UInt8) : nmB (alphF c) = true := by
  have h : ∀ j : Fin 36, nmB (alphB[j.val]'j.isLt) = true := by decide +kernel
  exact h ⟨c.toNat % 36, Nat.mod_lt _ (by decide)⟩
def wordF (s : Str) (most : Nat) : Str := 120 :: (s.take (most - 1)).map alphF
theorem wordF_name (s : Str) (most : Nat) : Name (wordF s most) := ⟨List.cons_ne_nil _ _, fun c hc => by
  rcases List.mem_cons.1 hc with rfl | hc
  · decide
  · obtain ⟨d, -, rfl⟩ := List.mem_map.1 hc
    exact alphF_nm d⟩
theorem wordF_len {s : Str} {most : Nat} (h : 1 ≤ most) : (wordF s most).length ≤ most := by
  unfold wordF
  rw [List.length_cons, List.length_map, List.length_take]
  omega
theorem own_lit {w : World} {base : Nat} {t : TypeId} {size n : Nat} {cur : Array Value} (hb : base ≤ w.heap.size) (hc : cur.size = n * size) (hn : n ≤ maxLen) : (w.alloc (.cells cur t)).ownsRow base t size (.slice (some ⟨w.heap.size, 0, none⟩) n n) n cur.toList :=
  ⟨by rw [Array.length_toList, hc], .inr ⟨w.heap.size, n, cur, rfl, hb, heap_alloc_new _ _, Nat.le_refl _, hn, by rw [hc], by rw [← hc, ← Array.length_toList, List.take_length]⟩⟩
set_option maxRecDepth 100000 in
set_option maxHeartbeats 4000000 in
theorem lword_any (s : ByteArray) (most : Nat) (w : World) (hs : s.size ≤ 4294967296) (h1 : 1 ≤ most) (h2 : most ≤ 100) : Calls Try.prog 17 #[.string s, .int .i64 most] w fun e w' => e = .returned (.string (strB (wordF s.toList most))) ∧ Below w.heap.size w w' := by
  obtain ⟨i0, hi, hz0, hz1, hz2⟩ := info_parts info_u8
  have HL : Hid ((w.alloc (.cells #[.int .u8 120] 5)).ownsRow w.heap.size 5 1 (.slice (some ⟨w.heap.size, 0, none⟩) 1 1) 1 (bytesV [120])) := own_lit (Nat.le_refl _) rfl (by decide)
  go_enter Try.func17, Try.ntmps17
  go_wp2_with fail
  go_loopw [5, 6] (fun v i wr => ∃ k : Nat, k ≤ s.size ∧ k + 1 ≤ most ∧ i = .int .i64 k ∧ wr.ownsRow w.heap.size 5 1 v (k + 1) (bytesV (wordF s.toList (k + 1))) ∧ Below w.heap.size w wr) (fun _ i _ => s.size - (intOf i).toNat)
  case atStart => exact ⟨0, Nat.zero_le _, h1, rfl, HL.out, (Below.refl _ w).alloc (Nat.le_refl _) _⟩
  case round =>
    obtain ⟨k, hk, hkm, rfl, ho, hb⟩ := hrel
    have HO := Lib.hid ho
    have HB := Lib.hid hb
    have HZ := Lib.hid hb.size
    obtain ⟨av, cv, hv, -⟩ := own_at ho
    subst hv
    clear ho hb
    by_cases hgo : k < s.size ∧ k + 1 < most
    · obtain ⟨g1, g2⟩ := hgo
      have g2i : (k : Int) + 1 < (most : Int) := by omega
      have hkl : k < s.toList.length := by rw [size_toList]; exact g1
      have hse : s.toList[k] = s[k] := by
        have := drop_byte s k g1
        rw [List.drop_eq_getElem_cons hkl] at this
        exact (List.cons.inj this).1
      have hsu : wordF s.toList (k + 1 + 1) = wordF s.toList (k + 1) ++ [alphF s[k]] := by
        unfold wordF
        rw [Nat.add_sub_cancel, Nat.add_sub_cancel, List.take_succ_eq_append_getElem hkl, List.map_append, hse]
        rfl
      have HSU := Lib.hid hsu
      obtain ⟨acc, hacc⟩ : ∃ acc, acc = wordF s.toList (k + 1) := ⟨_, rfl⟩
      rw [← hacc] at HO HSU
      have hal : acc.length = k + 1 := by
        have := HO.out.1
        rw [bytesV_length] at this
        omega
      have b1 : k + 1 + 1 ≤ maxLen := by unfold maxLen; omega
      have b2 : (k + 1 + 1) * 1 ≤ 140737488355328 := by omega
      have hmod : s[k].toNat % 36 < 36 := Nat.mod_lt _ (by decide)
      have h256 := s[k].toNat_lt
      have hwr : wrap64 (s[k].toNat : Int) = (s[k].toNat : Int) := by unfold wrap64; omega
      have htm : (s[k].toNat : Int).tmod 36 = ((s[k].toNat % 36 : Nat) : Int) := by rw [Int.tmod_eq_emod_of_nonneg (Int.natCast_nonneg _)]; rfl
      obtain ⟨bb, hbb⟩ : ∃ bb, bb = alphF s[k] := ⟨_, rfl⟩
      have hix : ∀ hh : s[k].toNat % 36 < (⟨#[97, 98, 99, 100, 101, 102, 103, 104, 105, 106, 107, 108, 109, 110, 111, 112, 113, 114, 115, 116, 117, 118, 119, 120, 121, 122, 48, 49, 50, 51, 52, 53, 54, 55, 56, 57]⟩ : ByteArray).size, (⟨#[97, 98, 99, 100, 101, 102, 103, 104, 105, 106, 107, 108, 109, 110, 111, 112, 113, 114, 115, 116, 117, 118, 119, 120, 121, 122, 48, 49, 50, 51, 52, 53, 54, 55, 56, 57]⟩ : ByteArray)[s[k].toNat % 36]'hh = bb := fun _ => hbb.symm
      rw [← hbb] at HSU
      have HQ := Lib.hid (HO.out.alloc (.cells #[.int .u8 (bb.toNat : Nat)] 5))
      have HZ2 := Lib.hid (show w.heap.size ≤ (wr.alloc (.cells #[.int .u8 (bb.toNat : Nat)] 5)).heap.size from by have := HZ.out; simp; omega)
      clear hse hsu hacc hbb hmod h256
      go_wp2_with (at_builtin; go_must (refine wpList_append_slice _ rfl _ _ 44 rfl w.heap.size 5 i0 _ 1 1 Try.underlying44 hi hz0 hz1 hz2 rfl (by decide) _ (k + 1) (bytesV acc) rfl HQ.out (some ⟨wr.heap.size, 0, none⟩) 1 1 (bytesV [bb]) rfl rfl (fun h => by cases h) (at_alloc rfl rfl) (bytesV_one' _) b1 b2 HZ2.out ?_; intro v3 w3 hown3 hgr3; have HO3 := Lib.hid hown3; have HG3 := Lib.hid hgr3; clear hown3 hgr3))
      go_roundw
      case rel => exact ⟨k + 1, by omega, by omega, by go_num, by rw [HSU.out, bytesV_app]; exact HO3.out, (HB.out.alloc HZ.out _).grown HG3.out HZ2.out (own_base_ge HQ.out)⟩
      case measure => simp [intOf]; omega
    · have hback := text_own (P := Try.prog) Try.underlying44 Try.underlying5 Try.underlying9 HO.out
      have hfin : wordF s.toList (k + 1) = wordF s.toList most := by
        unfold wordF
        rcases Nat.lt_or_ge k s.size with h | h
        · rw [show most = k + 1 by omega]
        · rw [List.take_of_length_le (by rw [size_toList]; omega), List.take_of_length_le (by rw [size_toList]; omega)]
      rw [hfin] at hback
      have hex : (¬ (k : Int) < (s.size : Int)) ∨ ((k : Int) < (s.size : Int) ∧ ¬ (k : Int) + 1 < (most : Int)) := by omega
      clear hfin hgo
      rcases hex with x1 | ⟨x1, x2⟩
      · go_wp2_with fail
        go_ret
        exact ⟨rfl, HB.out⟩
      · go_wp2_with fail
        go_ret
        exact ⟨rfl, HB.out⟩
end Go.Proofs.Ytbabcohidpcjjaa
