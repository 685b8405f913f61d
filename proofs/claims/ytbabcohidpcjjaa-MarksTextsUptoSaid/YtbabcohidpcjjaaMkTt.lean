/-
  The walk of MarksTexts: it returns true.
-/
import Derived.Test.YtbabcohidpcjjaaMkNx
import Derived.Test.YtbabcohidpcjjaaMkRd
import Derived.Test.YtbabcohidpcjjaaMkEs
namespace Go.Proofs.Ytbabcohidpcjjaa
open Go.RowKit Mem

set_option maxRecDepth 100000 in
set_option maxHeartbeats 4000000 in
theorem law_MarksTexts (s : ByteArray) (hs : s.size ≤ 1048576) (y : Int) (w : World) (hm : maxAt w y) :
    Calls Try.prog 9 #[.string s] w fun r w' => r = .returned (.bool true) ∧ Below w.heap.size w w' := by
  have HM := Lib.hid hm
  obtain ⟨t, ht⟩ : ∃ t, t = putF false s.toList := ⟨_, rfl⟩
  have hpl := putF_len s.toList false
  rw [size_toList, ← ht] at hpl
  have HOK : Hid (OkB t) := by rw [ht]; exact putF_ok _ _
  have hPL := fun u => plain_any s u (by omega)
  rw [← ht] at hPL
  have HPL := Lib.hid hPL
  obtain ⟨e, he⟩ : ∃ e, e = escS false t := ⟨_, rfl⟩
  have hel : e.length ≤ 18874368 := by rw [he]; have := escG_len false t false; show (escG false false t).length ≤ _; omega
  have hE := fun u => Escape12_any (strB t) false u (by rw [strB_size]; omega)
  rw [toList_strB, ← he] at hE
  have hMK := marks_esc HOK.out
  have hT1 := title_one HOK.out
  have hT2 := title_two (t := t)
  rw [← he] at hMK hT1
  have HE := Lib.hid hE
  have HT1 := Lib.hid hT1
  have HT2 := Lib.hid hT2
  have hMA := fun u hu => Marks_all (strB e) y u hu (by rw [strB_size]; omega)
  rw [toList_strB, hMK] at hMA
  have HMA := Lib.hid hMA
  have hcat : (⟨#[60, 116, 105, 116, 108, 101, 62]⟩ : ByteArray) ++ strB e ++ ⟨#[60, 47, 116, 105, 116, 108, 101, 62]⟩ = strB (titT e) := by
    apply toList_inj
    rw [toList_append', toList_append', toList_strB, toList_strB, show (⟨#[60, 116, 105, 116, 108, 101, 62]⟩ : ByteArray).toList = [60, 116, 105, 116, 108, 101, 62] from bytes_list [60, 116, 105, 116, 108, 101, 62], show (⟨#[60, 47, 116, 105, 116, 108, 101, 62]⟩ : ByteArray).toList = [60, 47, 116, 105, 116, 108, 101, 62] from bytes_list [60, 47, 116, 105, 116, 108, 101, 62], List.append_assoc]
    rfl
  have hno1 : ¬ 9223372036854775807 < 7 + (strB e).size := by rw [strB_size]; omega
  have hno2 : ¬ 9223372036854775807 < 7 + (strB e).size + 8 := by rw [strB_size]; omega
  have htl : (titT e).length = e.length + 15 := by unfold titT; rw [List.length_append, List.length_append]; show 7 + (e.length + 8) = _; omega
  have hNW := fun u => New_any (strB (titT e)) u (by rw [strB_size]; omega)
  rw [toList_strB] at hNW
  have HNW := Lib.hid hNW
  have hbt : (titM t).buf.length ≤ 100000000 := by show (escS false t ++ titE).length ≤ _; rw [List.length_append, ← he]; show e.length + 8 ≤ _; omega
  have hbn : (newM (titT e)).buf.length ≤ 100000000 := by show (putF false (titT e)).length ≤ _; have := putF_len (titT e) false; omega
  clear hm ht hPL he hE hMK hT1 hT2 hMA hNW
  go_enter Try.func9, Try.ntmps9
  go_wp2_with fail
  refine (shown_any y w HM.out).mono ?_
  rintro r W1 ⟨rfl, hb⟩
  have HM1 := Lib.hid (max_below HM.out hb)
  have HB1 := Lib.hid hb
  clear hb HM
  dsimp only
  go_wp2_with fail
  refine (HPL.out W1).mono ?_
  rintro r W2 ⟨rfl, hb⟩
  have HM2 := Lib.hid (max_below HM1.out hb)
  have HB2 := Lib.hid (belowCall HB1.out hb)
  clear hb HM1 HB1
  dsimp only
  go_wp2_with fail
  refine (HE.out W2).mono ?_
  rintro r W3 ⟨rfl, hb⟩
  have HM3 := Lib.hid (max_below HM2.out hb)
  have HB3 := Lib.hid (belowCall HB2.out hb)
  clear hb HM2 HB2
  dsimp only
  go_wp2_with fail
  refine (HMA.out W3 HM3.out).mono ?_
  rintro r W4 ⟨hr, hb⟩
  obtain ⟨ao, co, La, hra, hla, hoa, -⟩ := marks_own hr
  have HM4 := Lib.hid (max_below HM3.out hb)
  have HB4 := Lib.hid (belowCall HB3.out hb)
  have HOA := Lib.hid hoa
  have HLA := Lib.hid hla
  subst hra
  clear hb HM3 HB3 hr hoa hla
  dsimp only
  go_wp2_with fail
  refine (HE.out W4).mono ?_
  rintro r W5 ⟨rfl, hb⟩
  have HM5 := Lib.hid (max_below HM4.out hb)
  have HB5 := Lib.hid (belowCall HB4.out hb)
  have HOA5 := Lib.hid (own_below HOA.out hb)
  clear hb HM4 HB4 HOA
  dsimp only
  go_wp2_with fail
  refine (HNW.out W5).mono ?_
  rintro r W6 ⟨rfl, r6, hb⟩
  obtain ⟨B, hB⟩ : ∃ B, B = W5.heap.size := ⟨_, rfl⟩
  rw [← hB] at r6 ⊢
  have HM6 := Lib.hid (max_below HM5.out hb)
  have HB6 := Lib.hid (belowCall HB5.out hb)
  have HOA6 := Lib.hid (own_below HOA5.out hb)
  have HR6 := Lib.hid r6
  have hBw : w.heap.size ≤ B := by rw [hB]; exact HB5.out.size
  have HBA : Hid (∀ g, (Value.slice ao La.length co).ownBlock = some g → g < B) := fun g hg => by rw [hB]; exact (HOA5.out.lt g hg).2
  clear hb HM5 HB5 HOA5 r6 hB
  dsimp only
  go_wp2_with fail
  refine (Next_ok _ _ _ B y W6 HT1.out rfl HR6.out HM6.out (by omega) (Nat.zero_le _)).mono ?_
  rintro r W7 ⟨⟨sl, rfl, hown⟩, r7, k7⟩
  obtain ⟨a7, c7, hsl, -⟩ := own_at hown
  subst hsl
  have HM7 := Lib.hid (max_keeps HM6.out HR6.out k7)
  have HB7 := Lib.hid (below_keeps HB6.out hBw k7)
  have HOA7 := Lib.hid (own_kept (w' := W7) HOA6.out fun g hg => k7.block g (HOA6.out.lt g hg).2 (by show ¬ g = B; have := HBA.out g hg; omega))
  have HR7 := Lib.hid r7
  clear hown r7 k7 HM6 HB6 HOA6 HR6
  dsimp only [markV, startM]
  obtain ⟨X, hX⟩ : ∃ X, X = W7.heap.size := ⟨_, rfl⟩
  obtain ⟨Wa, hWa⟩ : ∃ Wa, Wa = W7.alloc (.cells #[.int .i64 2, .string (strB titleW), .slice a7 0 c7, .bool false, .string (strB [])] 36) := ⟨_, rfl⟩
  have HRa := Lib.hid (show Row Wa B (machV (titM t)) from hWa ▸ HR7.out.kept (heap_alloc_old _ _ HR7.out.lt))
  have HXa : Hid (Wa.heap[X]? = some (.cells #[.int .i64 2, .string (strB titleW), .slice a7 0 c7, .bool false, .string (strB [])] 36 (0, 0))) := by show _ = _; rw [hWa, hX]; exact heap_alloc_new _ _
  have hbb : Below W7.heap.size W7 Wa := by rw [hWa]; exact (Below.refl _ W7).alloc (Nat.le_refl _) _
  have HMa := Lib.hid (max_below HM7.out hbb)
  have HBa := Lib.hid (belowCall HB7.out hbb)
  have HOAa := Lib.hid (own_below HOA7.out hbb)
  have hXB : X ≠ B := by have := HR7.out.lt; omega
  have hXa : X < Wa.heap.size := by rw [hWa, hX]; simp
  have HWA := Lib.hid hWa
  clear hWa hbb HM7 HB7 HOA7 HR7
  go_wp2_with fail
  rw [← HWA.out, ← hX]
  clear HWA hX
  refine (Mode_any (titM t) B 1 ⟨#[116, 105, 116, 108, 101]⟩ Wa HRa.out (by decide)).mono ?_
  rw [show (⟨#[116, 105, 116, 108, 101]⟩ : ByteArray).toList = titleW from bytes_list titleW]
  rintro r W8 ⟨rfl, r8, k8⟩
  have HM8 := Lib.hid (max_keeps HMa.out HRa.out k8)
  have HB8 := Lib.hid (below_keeps HBa.out hBw k8)
  have HOA8 := Lib.hid (own_kept (w' := W8) HOAa.out fun g hg => k8.block g (HOAa.out.lt g hg).2 (by show ¬ g = B; have := HBA.out g hg; omega))
  have HX8 := Lib.hid (only_zero HXa.out k8 hXa hXB)
  have hX8 : X < W8.heap.size := Nat.lt_of_lt_of_le hXa k8.size
  have HR8 := Lib.hid r8
  have hset : setF (titM t) 1 titleW = { titM t with mode := 1, name := titleW } := by unfold setF; rw [if_pos (by decide)]
  have hbs : (setF (titM t) 1 titleW).buf.length ≤ 4294967280 := by rw [hset]; show (titM t).buf.length ≤ _; omega
  have hns : (setF (titM t) 1 titleW).name.length ≤ 4294967280 := by rw [hset]; show 5 ≤ _; omega
  obtain ⟨m9, h9, he9⟩ := HT2.out
  have HN9 := Lib.hid (Next_ok _ m9 _ B y W8 h9 he9 HR8.out HM8.out hbs hns)
  clear r8 k8 HMa HBa HOAa HXa hXa hset hbs hns h9 he9 HRa HT1 HT2 HM8
  dsimp only
  go_wp2_with fail
  refine HN9.out.mono ?_
  rintro r W9 ⟨⟨sl9, rfl, hown⟩, r9, k9⟩
  obtain ⟨a9, c9, hsl, -⟩ := own_at hown
  subst hsl
  have HB9 := Lib.hid (below_keeps HB8.out hBw k9)
  have HOA9 := Lib.hid (own_kept (w' := W9) HOA8.out fun g hg => k9.block g (HOA8.out.lt g hg).2 (by show ¬ g = B; have := HBA.out g hg; omega))
  have HX9 := only_zero HX8.out k9 hX8 hXB
  have hX9 : X < W9.heap.size := Nat.lt_of_lt_of_le hX8 k9.size
  have ca : W9.cell? ⟨X, 0, none⟩ = some (.int .i64 2) := by simp [World.cell?, HX9]
  have HATA := Lib.hid (own_at2 HOA9.out).2
  clear hown r9 k9 HX9 HB8 HOA8 HN9 HR8 HX8 HOA9
  by_cases ht0 : t = []
  · subst ht0
    obtain rfl := nil_of (show La.map (·.1) = [] from HLA.out)
    obtain ⟨em1, em2⟩ : (strB []).toList.isEmpty = true ∧ (strB []).toList = [] := ⟨by rw [toList_strB]; rfl, toList_strB _⟩
    rw [if_pos rfl]
    dsimp only [markV, stopM]
    go_wp2_with fail
    go_ret
    exact ⟨rfl, HB9.out.alloc HB9.out.size _⟩
  · have htx : txF t = [textM t] := by unfold txF; rw [if_neg ht0]
    obtain ⟨va, rfl⟩ := one_of (show La.map (·.1) = [textM t] from HLA.out.trans htx)
    obtain ⟨bl, ol, rfl, hbl, x0, -, -, -, x4⟩ := mark_cells HATA.out (k := 0) (by simp)
    have x0' : W9.cell? ⟨bl, ol, none⟩ = some (.int .i64 1) := by
      have h : W9.cell? ⟨bl, ol + 0 * 5, none⟩ = some (.int .i64 (textM t).kind) := x0
      rw [Nat.zero_mul, Nat.add_zero] at h
      exact h
    have x4' : W9.cell? ⟨bl, ol + 4, none⟩ = some (.string (strB t)) := by
      have h : W9.cell? ⟨bl, ol + 0 * 5 + 4, none⟩ = some (.string (strB t)) := x4
      rw [Nat.zero_mul, Nat.add_zero] at h
      exact h
    have hem : (strB t).toList.isEmpty = false ∧ ¬ (strB t).toList = [] := by rw [toList_strB]; exact ⟨by cases t; exact absurd rfl ht0; rfl, ht0⟩
    obtain ⟨em1, em2⟩ := hem
    rw [if_neg ht0]
    clear x0 x4 ht0 htx
    dsimp only [markV, textM]
    go_wp2_with fail
    go_ret
    exact ⟨rfl, HB9.out.alloc HB9.out.size _⟩
end Go.Proofs.Ytbabcohidpcjjaa
