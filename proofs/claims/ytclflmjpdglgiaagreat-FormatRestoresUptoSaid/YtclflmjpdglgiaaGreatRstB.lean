/-
  Contracts: the document's open elements: Pop, Remove, Swap, Insert. No conditions beyond those that each lemma types.
-/
import Derived.Test.YtclflmjpdglgiaaGreatOpenRS
import Derived.Test.YtclflmjpdglgiaaGreatFmA
import Derived.Deep.RegionLaw
namespace Go.Proofs.YtclflmjpdglgiaaGreat
open Go.RowKit Mem

section
variable {w0 w : World} {sb tb : Nat} {gs : Option Nat} {l : List Int}
/-- a new row is laid -/
theorem RstO.lay (h : RstO w sb tb gs l) {B : Nat} {v : Value} {l' : List Int} {n : Nat} (hn : n = l'.length) (ho : w.ownsRow B 3 1 v n (intsV l')) (hB : sb < B) :
    RstO (w.setCell ⟨sb, 1, none⟩ v) sb tb v.ownBlock l' ∧ ∀ k, v.ownBlock = some k → B ≤ k := by
  subst hn
  obtain ⟨h1, h2⟩ := own_low ho
  obtain ⟨a, c, _, _, _, _, _, hrow, _, _⟩ := h.cells
  have hne : v.ownBlock ≠ some sb := fun e => by have := h2 sb e; omega
  exact ⟨⟨v, Lib.heap_setCell_same (i := 1) hrow v, h1.kept fun k hk => heap_setCell_other _ _ _ _ (by rintro rfl; exact hne hk), hne⟩, h2⟩
end
theorem take_next (l : List Int) (k : Nat) (h : k < l.length) : l.take (k + 1) = l.take k ++ [l[k]] := by rw [List.take_add_one]; simp [h]
theorem intsV_put (l : List Int) (m : Nat) (v : Int) : intsV (l.set m v) = (intsV l).set m (.int .i64 v) := by simp [intsV, List.map_set]
def insK (l : List Int) (p : Int) (n : Int) (k : Nat) : List Int := if 0 ≤ p ∧ p < k then l.take (p.toNat + 1) ++ n :: (l.take k).drop (p.toNat + 1) else l.take k
theorem insK_zero (l : List Int) (p n : Int) : insK l p n 0 = [] := by rw [insK, if_neg (by omega)]; rfl
theorem insK_len (l : List Int) (p n : Int) (k : Nat) : (insK l p n k).length ≤ l.length + 1 := by
  unfold insK
  split
  · simp only [List.length_append, List.length_take, List.length_cons, List.length_drop]
    omega
  · rw [List.length_take]
    omega
theorem insK_step (l : List Int) (p n : Int) (k : Nat) (h : k < l.length) : insK l p n (k + 1) = if (k : Int) = p then (insK l p n k ++ [l[k]]) ++ [n] else insK l p n k ++ [l[k]] := by
  by_cases he : (k : Int) = p
  · subst he
    rw [if_pos rfl, insK, if_pos (by omega), insK, if_neg (by omega), Int.toNat_natCast, List.drop_of_length_le (by rw [List.length_take]; omega), take_next l k h]
  · rw [if_neg he]
    unfold insK
    by_cases hp : 0 ≤ p ∧ p < k
    · rw [if_pos hp, if_pos (by omega), take_next l k h, List.drop_append_of_le_length (by rw [List.length_take]; omega)]
      simp
    · rw [if_neg hp, if_neg (by omega), take_next l k h]
theorem insK_end (l : List Int) (b n : Int) : insK l (rfind l b) n l.length = insF l b n := by
  obtain ⟨q1, q2, _, _⟩ := rfind_spec l b
  unfold insK insF insAt
  by_cases h0 : 0 ≤ rfind l b
  · rw [if_pos ⟨h0, q2⟩, if_pos h0, List.take_length]
  · rw [if_neg (by omega), if_neg h0, List.take_length]
theorem drop_step (l : List Int) (p : Int) (k : Nat) (h : k < l.length) : dropF (l.take (k + 1)) p = if (k : Int) = p then dropF (l.take k) p else dropF (l.take k) p ++ [l[k]] := by
  unfold dropF
  rw [take_next l k h]
  have hlen : (l.take k).length = k := by rw [List.length_take]; omega
  by_cases hp : 0 ≤ p
  · obtain ⟨m, rfl⟩ := Int.eq_ofNat_of_zero_le hp
    rw [if_pos hp, if_pos hp, Int.toNat_natCast]
    rcases Nat.lt_trichotomy m k with hm | hm | hm
    · rw [if_neg (by omega), List.eraseIdx_append_of_lt_length (by omega)]
    · subst hm
      have e : (l.take m).eraseIdx m = l.take m := List.eraseIdx_of_length_le (by omega)
      rw [if_pos rfl, e, List.eraseIdx_append_of_length_le (by omega), hlen, Nat.sub_self]
      simp
    · rw [if_neg (by omega), List.eraseIdx_of_length_le (by simp; omega), List.eraseIdx_of_length_le (by omega)]
  · rw [if_neg hp, if_neg hp, if_neg (by omega)]

section
variable (w : World) (sb tb : Nat) (gs : Option Nat) (l : List Int)
set_option maxRecDepth 100000 in
set_option maxHeartbeats 4000000 in
theorem rst_remove (h : RstO w sb tb gs l) (n : Int) (hl : l.length ≤ 1048576) : Calls Tryz.prog 104 #[.pointer (some ⟨sb, 0, none⟩), .int .i64 n] w fun e w' =>
    e = .returned (.tuple #[]) ∧ ∃ gs', RstO w' sb tb gs' (rmF l n) ∧ (∀ k, gs' = some k → gs = some k ∨ w.heap.size ≤ k) ∧ Keeps (SB sb gs) w w' := by
  have HF := Lib.hid (rst_find w sb tb gs l h n hl)
  obtain ⟨a, c, c0, c1, hat, _, f1, _⟩ := h.cells
  have hlt := h.lt sb (.inl rfl)
  have HA := Lib.hid hat
  have HS := Lib.hid h
  have HE := Lib.hid (show dropF l (rfind l n) = rmF l n from rfl)
  obtain ⟨i0, hi, hz0, hz1, hz2⟩ := info_parts stk_int
  generalize rfind l n = p at *
  clear h hat
  go_enter Tryz.func104, Tryz.ntmps104
  go_wp2_with (go_at_call 63; go_must (refine HF.out.mono ?_; rintro e w1 ⟨rfl, rfl⟩))
  go_loopw [5, 6] (fun v i wr => ∃ (k : Nat) (y : Value), y = v ∧ k ≤ l.length ∧ i = .int .i64 k ∧ wr.ownsRow w.heap.size 3 1 y (dropF (l.take k) p).length (intsV (dropF (l.take k) p)) ∧ Below w.heap.size w wr) (fun _ i _ => l.length - (intOf i).toNat)
  case atStart => exact ⟨0, _, rfl, Nat.zero_le _, rfl, by rw [List.take_zero, show dropF [] p = [] by unfold dropF; split <;> simp]; exact World.ownsRow_nil _ _ _ _, Below.refl _ _⟩
  case round =>
    obtain ⟨k, v, rfl, hk, rfl, ho, hb⟩ := hrel
    have c1' := cell_later hb c1
    have f1' := (hb.frozen (p := ⟨sb, 1, none⟩) hlt).trans f1
    have HO := Lib.hid ho
    have HB := Lib.hid hb
    by_cases hlt2 : k < l.length
    · obtain ⟨b, o, rfl, e0⟩ := HA.out _ _ (intsV_get l k hlt2)
      have e1 := cell_later hb e0
      have HN := Lib.hid (drop_step l p k hlt2)
      have hml : (dropF (l.take k) p).length ≤ 1048576 := by
        have := dropF_len (l.take k) p
        rw [List.length_take] at this
        omega
      generalize dropF (l.take k) p = M at *
      clear e0 c1
      by_cases he : (k : Int) = p
      · have he' : ((k : Int) != p) = false := by simpa using he
        have HE2 := Lib.hid he
        clear he ho hb
        go_wp2_with fail
        go_roundw
        case rel => exact ⟨k + 1, _, rfl, by omega, by go_num, by rw [HN.out, if_pos HE2.out]; exact HO.out, HB.out⟩
        case measure => simp [intOf]; omega
      · have he' : ((k : Int) != p) = true := by simpa using he
        have HE2 := Lib.hid he
        have b1 : M.length + 1 ≤ maxLen := by unfold maxLen; omega
        have b2 : (M.length + 1) * 8 ≤ 140737488355328 := by omega
        have HQ := Lib.hid (HO.out.alloc (.cells #[.int .i64 l[k]] 3))
        have HZ2 := Lib.hid (show w.heap.size ≤ (wr.alloc (.cells #[.int .i64 l[k]] 3)).heap.size from by have := HB.out.size; simp; omega)
        clear he ho hb
        go_wp2_with (at_builtin; (refine wpList_append_slice _ rfl _ _ 30 rfl w.heap.size 3 i0 _ 1 8 Tryz.underlying30 hi hz0 hz1 hz2 rfl (by decide) _ M.length (intsV M) rfl HQ.out (some ⟨wr.heap.size, 0, none⟩) 1 1 (intsV [l[k]]) rfl rfl (fun h => by cases h) (at_alloc rfl rfl) (intsV_one _) b1 b2 HZ2.out ?_; intro v3 w3 hown3 hgr3; have HO3 := Lib.hid hown3; have HB3 := Lib.hid ((HB.out.alloc HB.out.size _).grown hgr3 HZ2.out (fun b hb => (HQ.out.lt b hb).1)); clear hown3 hgr3))
        go_roundw
        case rel => exact ⟨k + 1, _, rfl, by omega, by go_num, by rw [HN.out, if_neg HE2.out, intsV_append, List.length_append]; exact HO3.out, HB3.out⟩
        case measure => simp [intOf]; omega
    · have he : l.take k = l := List.take_of_length_le (by omega)
      rw [he, HE.out] at HO
      obtain ⟨av, cv, rfl, _, _, _, _⟩ := own_at HO.out
      obtain ⟨hL, hL2⟩ := (HS.out.below hb).lay rfl HO.out hlt
      have HLL := Lib.hid hL
      have HL2 := Lib.hid hL2
      have HK := Lib.hid ((Keeps.ofBelow (F := SB sb gs) hb).set (p := ⟨sb, 1, none⟩) (.inl (.inl rfl)) (.slice av (rmF l n).length cv))
      clear c1 hL hL2 ho hb he
      go_wp2_with fail
      go_end0
      exact ⟨rfl, _, HLL.out, fun k hk => .inr (HL2.out k hk), HK.out⟩

theorem rst_swap (h : RstO w sb tb gs l) (o n : Int) (hl : l.length ≤ 1048576) : Calls Tryz.prog 106 #[.pointer (some ⟨sb, 0, none⟩), .int .i64 o, .int .i64 n] w fun e w' =>
    e = .returned (.tuple #[]) ∧ RstO w' sb tb gs (swapF l o n) ∧ Keeps (SB sb gs) w w' := by
  have HF := Lib.hid (rst_find w sb tb gs l h o hl)
  obtain ⟨a, c, c0, c1, hat, hown, f1, hrow, _, hne⟩ := h.cells
  obtain ⟨q1, q2, _, _⟩ := rfind_spec l o
  have HS := Lib.hid h
  by_cases h0 : 0 ≤ rfind l o
  · have HR : Hid (swapF l o n = l.set (rfind l o).toNat n) := Lib.hid (by rw [swapF, if_pos h0])
    obtain ⟨k, hk⟩ := Int.eq_ofNat_of_zero_le h0
    rw [hk] at HF HR q2
    rw [Int.toNat_natCast] at HR
    have hkl : k < l.length := by omega
    obtain ⟨b, o', rfl, e1⟩ := hat _ _ (intsV_get l k hkl)
    have hb : gs = some b := hown.2.symm
    have ho' : o' = 0 := by
      rcases hown.1.2 with ⟨he, _⟩ | ⟨g, cap, cur, he, _⟩
      · cases he
      · cases he; rfl
    subst ho'
    have fb : w.frozen? ⟨b, 0 + k, none⟩ = false := hown.1.frozenAt _
    have hst := (hown.1.stored k (.int .i64 n)).1
    have hlb := row_lt hrow
    have HRow := Lib.hid hrow
    have HNe := Lib.hid hne
    have HW := Lib.hid hown
    have HB := Lib.hid hb
    have HSt := Lib.hid hst
    rw [Nat.zero_add] at e1 fb
    clear h hat hown hrow hne hb hst hk h0 q1 q2
    go_enter Tryz.func106, Tryz.ntmps106
    go_wp2_with (go_at_call 63; go_must (refine HF.out.mono ?_; rintro e w1 ⟨rfl, rfl⟩))
    go_end0
    have hbs : b ≠ sb := fun e => HNe.out (by rw [HB.out, e])
    refine ⟨rfl, ⟨.slice (some ⟨b, 0, none⟩) l.length c, (heap_setCell_other _ _ _ _ (Ne.symm hbs)).trans HRow.out, ⟨?_, ?_⟩, HNe.out⟩, (Keeps.refl _ _).set (.inl (.inr HB.out)) _⟩
    · rw [HR.out, intsV_put, List.length_set]
      simpa using HSt.out
    · exact HW.out.2
  · have HR : Hid (swapF l o n = l) := Lib.hid (by rw [swapF, if_neg h0])
    have h1 : rfind l o = -1 := by omega
    rw [h1] at HF
    clear h h0 h1 q1 q2 hat hown hrow hne
    go_enter Tryz.func106, Tryz.ntmps106
    go_wp2_with (go_at_call 63; go_must (refine HF.out.mono ?_; rintro e w1 ⟨rfl, rfl⟩))
    go_end0
    exact ⟨rfl, by rw [HR.out]; exact HS.out, Keeps.refl _ _⟩

set_option maxRecDepth 100000 in
set_option maxHeartbeats 4000000 in
theorem rst_insert (h : RstO w sb tb gs l) (b0 n : Int) (hl : l.length ≤ 1048576) : Calls Tryz.prog 108 #[.pointer (some ⟨sb, 0, none⟩), .int .i64 b0, .int .i64 n] w fun e w' =>
    e = .returned (.tuple #[]) ∧ ∃ gs', RstO w' sb tb gs' (insF l b0 n) ∧ (∀ k, gs' = some k → gs = some k ∨ w.heap.size ≤ k) ∧ Keeps (SB sb gs) w w' := by
  have HF := Lib.hid (rst_find w sb tb gs l h b0 hl)
  obtain ⟨a, c, c0, c1, hat, _, f1, _⟩ := h.cells
  have hlt := h.lt sb (.inl rfl)
  have HA := Lib.hid hat
  have HS := Lib.hid h
  have HE := Lib.hid (insK_end l b0 n)
  obtain ⟨i0, hi, hz0, hz1, hz2⟩ := info_parts stk_int
  generalize rfind l b0 = p at *
  clear h hat
  go_enter Tryz.func108, Tryz.ntmps108
  go_wp2_with (go_at_call 63; go_must (refine HF.out.mono ?_; rintro e w1 ⟨rfl, rfl⟩))
  go_loopw [7, 8] (fun v i wr => ∃ (k : Nat) (y : Value), y = v ∧ k ≤ l.length ∧ i = .int .i64 k ∧ wr.ownsRow w.heap.size 3 1 y (insK l p n k).length (intsV (insK l p n k)) ∧ Below w.heap.size w wr) (fun _ i _ => l.length - (intOf i).toNat)
  case atStart => exact ⟨0, _, rfl, Nat.zero_le _, rfl, by rw [insK_zero]; exact World.ownsRow_nil _ _ _ _, Below.refl _ _⟩
  case round =>
    obtain ⟨k, v, rfl, hk, rfl, ho, hb⟩ := hrel
    have c1' := cell_later hb c1
    have f1' := (hb.frozen (p := ⟨sb, 1, none⟩) hlt).trans f1
    have HO := Lib.hid ho
    have HB := Lib.hid hb
    by_cases hlt2 : k < l.length
    · obtain ⟨b, o, rfl, e0⟩ := HA.out _ _ (intsV_get l k hlt2)
      have e1 := cell_later hb e0
      have HN := Lib.hid (insK_step l p n k hlt2)
      have hml := insK_len l p n k
      generalize insK l p n k = M at *
      have b1 : M.length + 1 ≤ maxLen := by unfold maxLen; omega
      have b2 : (M.length + 1) * 8 ≤ 140737488355328 := by omega
      have HQ := Lib.hid (HO.out.alloc (.cells #[.int .i64 l[k]] 3))
      have HZ2 := Lib.hid (show w.heap.size ≤ (wr.alloc (.cells #[.int .i64 l[k]] 3)).heap.size from by have := HB.out.size; simp; omega)
      clear e0 c1
      by_cases he : (k : Int) = p
      · have he' : ((k : Int) == p) = true := by simpa using he
        have HE2 := Lib.hid he
        have b3 : M.length + 1 + 1 ≤ maxLen := by unfold maxLen; omega
        have b4 : (M.length + 1 + 1) * 8 ≤ 140737488355328 := by omega
        clear he ho hb
        go_wp2_with (first
          | (at_builtin; (refine wpList_append_slice _ rfl (.tmp 21) (.tmp 29) 30 rfl w.heap.size 3 i0 _ 1 8 Tryz.underlying30 hi hz0 hz1 hz2 rfl (by decide) _ M.length (intsV M) rfl HQ.out (some ⟨wr.heap.size, 0, none⟩) 1 1 (intsV [l[k]]) rfl rfl (fun h => by cases h) (at_alloc rfl rfl) (intsV_one _) b1 b2 HZ2.out ?_; intro v3 w3 hown3 hgr3; have HO3 := Lib.hid hown3; have HB3 := Lib.hid ((HB.out.alloc HB.out.size _).grown hgr3 HZ2.out (fun b hb => (HQ.out.lt b hb).1)); clear hown3 hgr3; have HQ3 := Lib.hid (HO3.out.alloc (.cells #[.int .i64 n] 3)); have HZ3 := Lib.hid (show w.heap.size ≤ (w3.alloc (.cells #[.int .i64 n] 3)).heap.size from by have := HB3.out.size; simp; omega)))
          | (at_builtin; (refine wpList_append_slice _ rfl (.tmp 34) (.tmp 36) 30 rfl w.heap.size 3 i0 _ 1 8 Tryz.underlying30 hi hz0 hz1 hz2 rfl (by decide) _ (M.length + 1) (intsV M ++ intsV [l[k]]) rfl HQ3.out (some ⟨w3.heap.size, 0, none⟩) 1 1 (intsV [n]) rfl rfl (fun h => by cases h) (at_alloc rfl rfl) (intsV_one _) b3 b4 HZ3.out ?_; intro v4 w4 hown4 hgr4; have HO4 := Lib.hid hown4; have HB4 := Lib.hid ((HB3.out.alloc HB3.out.size _).grown hgr4 HZ3.out (fun b hb => (HQ3.out.lt b hb).1)); clear hown4 hgr4)))
        go_roundw
        case rel => exact ⟨k + 1, _, rfl, by omega, by go_num, by rw [HN.out, if_pos HE2.out, intsV_append, intsV_append, List.length_append, List.length_append]; exact HO4.out, HB4.out⟩
        case measure => simp [intOf]; omega
      · have he' : ((k : Int) == p) = false := by simpa using he
        have HE2 := Lib.hid he
        clear he ho hb
        go_wp2_with (at_builtin; (refine wpList_append_slice _ rfl _ _ 30 rfl w.heap.size 3 i0 _ 1 8 Tryz.underlying30 hi hz0 hz1 hz2 rfl (by decide) _ M.length (intsV M) rfl HQ.out (some ⟨wr.heap.size, 0, none⟩) 1 1 (intsV [l[k]]) rfl rfl (fun h => by cases h) (at_alloc rfl rfl) (intsV_one _) b1 b2 HZ2.out ?_; intro v3 w3 hown3 hgr3; have HO3 := Lib.hid hown3; have HB3 := Lib.hid ((HB.out.alloc HB.out.size _).grown hgr3 HZ2.out (fun b hb => (HQ.out.lt b hb).1)); clear hown3 hgr3))
        go_roundw
        case rel => exact ⟨k + 1, _, rfl, by omega, by go_num, by rw [HN.out, if_neg HE2.out, intsV_append, List.length_append]; exact HO3.out, HB3.out⟩
        case measure => simp [intOf]; omega
    · obtain rfl : k = l.length := by omega
      rw [HE.out] at HO
      obtain ⟨av, cv, rfl, _, _, _, _⟩ := own_at HO.out
      obtain ⟨hL, hL2⟩ := (HS.out.below hb).lay rfl HO.out hlt
      have HLL := Lib.hid hL
      have HL2 := Lib.hid hL2
      have HK := Lib.hid ((Keeps.ofBelow (F := SB sb gs) hb).set (p := ⟨sb, 1, none⟩) (.inl (.inl rfl)) (.slice av (insF l b0 n).length cv))
      clear c1 hL hL2 ho hb
      go_wp2_with fail
      go_end0
      exact ⟨rfl, _, HLL.out, fun k hk => .inr (HL2.out k hk), HK.out⟩
end
end Go.Proofs.YtclflmjpdglgiaaGreat
