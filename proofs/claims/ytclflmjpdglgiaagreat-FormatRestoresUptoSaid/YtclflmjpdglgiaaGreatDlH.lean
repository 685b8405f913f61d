/-
  Contracts: the document's list: put. Plain: an entry -2 that keeps a place. No conditions beyond those that each lemma types.
-/
import Derived.Test.YtclflmjpdglgiaaGreatDlG
namespace Go.Proofs.YtclflmjpdglgiaaGreat
open Go.RowKit Mem

def putK (e : List Int) (p : Nat) (n : Int) (k : Nat) : List Int := if p < k then insAt (e.take k) p n else e.take k
theorem putK_zero (e : List Int) (p : Nat) (n : Int) : putK e p n 0 = [] := by rw [putK, if_neg (Nat.not_lt_zero _)]; rfl
theorem putK_len (e : List Int) (p : Nat) (n : Int) (k : Nat) : (putK e p n k).length ≤ e.length + 1 := by
  unfold putK insAt
  split
  · simp only [List.length_append, List.length_take, List.length_cons, List.length_drop]
    omega
  · rw [List.length_take]; omega
theorem putK_ne {e : List Int} {p k : Nat} (n : Int) (hk : k < e.length) (hne : k ≠ p) : putK e p n (k + 1) = putK e p n k ++ [e[k]] := by
  unfold putK insAt
  rw [take_next e k hk]
  by_cases h : p < k
  · rw [if_pos (by omega), if_pos h, List.take_append_of_le_length (by rw [List.length_take]; omega), List.drop_append_of_le_length (by rw [List.length_take]; omega)]
    simp
  · rw [if_neg (by omega), if_neg h]
theorem putK_eq {e : List Int} {p : Nat} (n : Int) (hk : p < e.length) : putK e p n (p + 1) = (putK e p n p ++ [n]) ++ [e[p]] := by
  unfold putK insAt
  rw [if_pos (by omega), if_neg (by omega), take_next e p hk, List.take_append_of_le_length (by rw [List.length_take]; omega), List.take_of_length_le (by rw [List.length_take]; omega), List.drop_append, List.drop_of_length_le (by rw [List.length_take]; omega)]
  have : p - (e.take p).length = 0 := by rw [List.length_take]; omega
  rw [this]
  simp
theorem putK_last {e : List Int} (n : Int) : putK e e.length n (e.length + 1) = putK e e.length n e.length ++ [n] := by
  unfold putK insAt
  rw [if_pos (by omega), if_neg (by omega), List.take_of_length_le (Nat.le_succ _), List.take_of_length_le (Nat.le_refl _), List.drop_of_length_le (Nat.le_refl _)]
theorem putK_skip {e : List Int} {p : Nat} (n : Int) (hp : p < e.length) : putK e p n (e.length + 1) = putK e p n e.length := by
  unfold putK
  rw [if_pos (by omega), if_pos hp, List.take_of_length_le (Nat.le_succ _), List.take_of_length_le (Nat.le_refl _)]
theorem putK_end {e : List Int} {p : Nat} (n : Int) (hp : p ≤ e.length) : putK e p n (e.length + 1) = insAt e p n := by
  unfold putK
  rw [if_pos (by omega), List.take_of_length_le (Nat.le_succ _)]

section
variable (w : World) (lb tb sb : Nat) (ge : Option Nat) (l : List Int) (on : Bool)
set_option maxRecDepth 100000 in
set_option maxHeartbeats 8000000 in
theorem ldo_put (h : LdO w lb tb sb ge l on) (p : Nat) (hp : p ≤ l.length) (n : Int) (hl : l.length ≤ 1000000) : Calls Tryz.prog 103 #[.pointer (some ⟨lb, 0, none⟩), .int .i64 p, .int .i64 n] w fun e w' =>
    e = .returned (.tuple #[]) ∧ ∃ ge', LdO w' lb tb sb ge' (insAt l p n) on ∧ (∀ k, ge' = some k → ge = some k ∨ w.heap.size ≤ k) ∧ Keeps (SB lb ge) w w' := by
  obtain ⟨a, c, c0, c1, c2, c3, hat, _, f2, _, _, _, _⟩ := h.cells
  have hlt := h.lt lb (.inl rfl)
  have HA := Lib.hid hat
  have HS := Lib.hid h
  obtain ⟨i0, hi, hz0, hz1, hz2⟩ := info_parts stk_int
  have HPE := Lib.hid (putK_end n hp)
  clear h hat
  go_enter Tryz.func103, Tryz.ntmps103
  go_wp2_with fail
  go_loopw [6, 7] (fun v i wr => ∃ (k : Nat) (y : Value), y = v ∧ k ≤ l.length + 1 ∧ i = .int .i64 k ∧ wr.ownsRow w.heap.size 3 1 y (putK l p n k).length (intsV (putK l p n k)) ∧ Below w.heap.size w wr) (fun _ i _ => l.length + 1 - (intOf i).toNat)
  case atStart => exact ⟨0, _, rfl, Nat.zero_le _, rfl, by rw [putK_zero]; exact World.ownsRow_nil _ _ _ _, Below.refl _ _⟩
  case round =>
    obtain ⟨k, v, rfl, hk, rfl, ho, hb⟩ := hrel
    have c2' := cell_later hb c2
    have f2' := (hb.frozen (p := ⟨lb, 2, none⟩) hlt).trans f2
    have HO := Lib.hid ho
    have HB := Lib.hid hb
    have hml := putK_len l p n k
    by_cases hlt2 : k < l.length
    · obtain ⟨b, o, rfl, e0⟩ := HA.out _ _ (intsV_get l k hlt2)
      have e1 := cell_later hb e0
      by_cases he : k = p
      · subst he
        have HN := Lib.hid (putK_eq n hlt2)
        obtain ⟨x, hx⟩ : ∃ x, x = l[k] := ⟨_, rfl⟩
        rw [← hx] at e0 e1 HN
        generalize putK l k n k = M at *
        have b1 : M.length + 1 ≤ maxLen := by unfold maxLen; omega
        have b2 : (M.length + 1) * 8 ≤ 140737488355328 := by omega
        have b3 : M.length + 1 + 1 ≤ maxLen := by unfold maxLen; omega
        have b4 : (M.length + 1 + 1) * 8 ≤ 140737488355328 := by omega
        have HQ := Lib.hid (HO.out.alloc (.cells #[.int .i64 n] 3))
        have HZ2 := Lib.hid (show w.heap.size ≤ (wr.alloc (.cells #[.int .i64 n] 3)).heap.size from by have := HB.out.size; simp; omega)
        clear c0 c1 c3 ho hb hx
        go_wp2_with (first
          | (at_builtin; (refine wpList_append_slice _ rfl (.tmp 20) (.tmp 22) 30 rfl w.heap.size 3 i0 _ 1 8 Tryz.underlying30 hi hz0 hz1 hz2 rfl (by decide) _ M.length (intsV M) rfl HQ.out (some ⟨wr.heap.size, 0, none⟩) 1 1 (intsV [n]) rfl rfl (fun h => by cases h) (at_alloc rfl rfl) (intsV_one _) b1 b2 HZ2.out ?_; intro v3 w3 hown3 hgr3; have HO3 := Lib.hid hown3; have HB3 := Lib.hid ((HB.out.alloc HB.out.size _).grown hgr3 HZ2.out (fun b hb => (HQ.out.lt b hb).1)); clear hown3 hgr3; have HQ3 := Lib.hid (HO3.out.alloc (.cells #[.int .i64 x] 3)); have HZ3 := Lib.hid (show w.heap.size ≤ (w3.alloc (.cells #[.int .i64 x] 3)).heap.size from by have := HB3.out.size; simp; omega); have c3' := cell_later HB3.out c2; have e3 := cell_later HB3.out e0))
          | (at_builtin; (refine wpList_append_slice _ rfl (.tmp 31) (.tmp 39) 30 rfl w.heap.size 3 i0 _ 1 8 Tryz.underlying30 hi hz0 hz1 hz2 rfl (by decide) _ (M.length + 1) (intsV M ++ intsV [n]) rfl HQ3.out (some ⟨w3.heap.size, 0, none⟩) 1 1 (intsV [x]) rfl rfl (fun h => by cases h) (at_alloc rfl rfl) (intsV_one _) b3 b4 HZ3.out ?_; intro v4 w4 hown4 hgr4; have HO4 := Lib.hid hown4; have HB4 := Lib.hid ((HB3.out.alloc HB3.out.size _).grown hgr4 HZ3.out (fun b hb => (HQ3.out.lt b hb).1)); clear hown4 hgr4)))
        go_roundw
        case rel => exact ⟨k + 1, _, rfl, by omega, by go_num, by rw [HN.out, intsV_append, intsV_append, List.length_append, List.length_append]; exact HO4.out, HB4.out⟩
        case measure => simp [intOf]; omega
      · have HN := Lib.hid (putK_ne n hlt2 he)
        have he' : ((k : Int) == (p : Int)) = false := by rw [beq_eq_false_iff_ne]; omega
        obtain ⟨x, hx⟩ : ∃ x, x = l[k] := ⟨_, rfl⟩
        rw [← hx] at e1 HN
        generalize putK l p n k = M at *
        have b1 : M.length + 1 ≤ maxLen := by unfold maxLen; omega
        have b2 : (M.length + 1) * 8 ≤ 140737488355328 := by omega
        have HQ := Lib.hid (HO.out.alloc (.cells #[.int .i64 x] 3))
        have HZ2 := Lib.hid (show w.heap.size ≤ (wr.alloc (.cells #[.int .i64 x] 3)).heap.size from by have := HB.out.size; simp; omega)
        clear e0 c0 c1 c2 c3 ho hb hx he
        go_wp2_with (at_builtin; (refine wpList_append_slice _ rfl _ _ 30 rfl w.heap.size 3 i0 _ 1 8 Tryz.underlying30 hi hz0 hz1 hz2 rfl (by decide) _ M.length (intsV M) rfl HQ.out (some ⟨wr.heap.size, 0, none⟩) 1 1 (intsV [x]) rfl rfl (fun h => by cases h) (at_alloc rfl rfl) (intsV_one _) b1 b2 HZ2.out ?_; intro v3 w3 hown3 hgr3; have HO3 := Lib.hid hown3; have HB3 := Lib.hid ((HB.out.alloc HB.out.size _).grown hgr3 HZ2.out (fun b hb => (HQ.out.lt b hb).1)); clear hown3 hgr3))
        go_roundw
        case rel => exact ⟨k + 1, _, rfl, by omega, by go_num, by rw [HN.out, intsV_append, List.length_append]; exact HO3.out, HB3.out⟩
        case measure => simp [intOf]; omega
    · by_cases hk1 : k = l.length
      · subst hk1
        by_cases he : p = l.length
        · subst he
          have HN := Lib.hid (putK_last (e := l) n)
          generalize putK l l.length n l.length = M at *
          have b1 : M.length + 1 ≤ maxLen := by unfold maxLen; omega
          have b2 : (M.length + 1) * 8 ≤ 140737488355328 := by omega
          have HQ := Lib.hid (HO.out.alloc (.cells #[.int .i64 n] 3))
          have HZ2 := Lib.hid (show w.heap.size ≤ (wr.alloc (.cells #[.int .i64 n] 3)).heap.size from by have := HB.out.size; simp; omega)
          clear c0 c1 c3 ho hb
          go_wp2_with (at_builtin; (refine wpList_append_slice _ rfl _ _ 30 rfl w.heap.size 3 i0 _ 1 8 Tryz.underlying30 hi hz0 hz1 hz2 rfl (by decide) _ M.length (intsV M) rfl HQ.out (some ⟨wr.heap.size, 0, none⟩) 1 1 (intsV [n]) rfl rfl (fun h => by cases h) (at_alloc rfl rfl) (intsV_one _) b1 b2 HZ2.out ?_; intro v3 w3 hown3 hgr3; have HO3 := Lib.hid hown3; have HB3 := Lib.hid ((HB.out.alloc HB.out.size _).grown hgr3 HZ2.out (fun b hb => (HQ.out.lt b hb).1)); have c3' := cell_later HB3.out c2; clear hown3 hgr3))
          go_roundw
          case rel => exact ⟨l.length + 1, _, rfl, by omega, by go_num, by rw [HN.out, intsV_append, List.length_append]; exact HO3.out, HB3.out⟩
          case measure => simp [intOf]
        · have HN := Lib.hid (putK_skip (e := l) n (by omega : p < l.length))
          have he' : ((l.length : Int) == (p : Int)) = false := by rw [beq_eq_false_iff_ne]; omega
          clear c0 c1 c2 c3 ho hb he
          go_wp2_with fail
          go_roundw
          case rel => exact ⟨l.length + 1, _, rfl, by omega, by go_num, by rw [HN.out]; exact HO.out, HB.out⟩
          case measure => simp [intOf]
      · obtain rfl : k = l.length + 1 := by omega
        rw [HPE.out] at HO
        obtain ⟨av, cv, rfl, _, _, _, _⟩ := own_at HO.out
        obtain ⟨hL, hL2⟩ := (HS.out.below hb).lay rfl HO.out hlt
        have HLL := Lib.hid hL
        have HL2 := Lib.hid hL2
        have HK := Lib.hid ((Keeps.ofBelow (F := SB lb ge) hb).set (p := ⟨lb, 2, none⟩) (.inl (.inl rfl)) (.slice av (insAt l p n).length cv))
        clear c0 c1 c2 c3 hL hL2 ho hb hk1 hlt2
        go_wp2_with fail
        go_end0
        exact ⟨rfl, _, HLL.out, fun k hk => .inr (HL2.out k hk), HK.out⟩
end

section
variable {w0 w w' : World} {B B' rb sb lb : Nat} {ex : Nat → Prop} {T T' : TreeD} {l l' ent ent' : List Int} {on on' : Bool}
theorem put_ld (h : LD w0 B rb sb lb ex T l ent on w) (p : Nat) (hp : p ≤ ent.length) (n : Int) (hle : ent.length < 1000000) : Calls Tryz.prog 103 #[.pointer (some ⟨lb, 0, none⟩), .int .i64 p, .int .i64 n] w fun e w' => e = .returned (.tuple #[]) ∧ LD w0 B rb sb lb ex T l (insAt ent p n) on w' ∧ Keeps (Own w0 ex) w w' := by
  obtain ⟨ge, h1, h2, h3, h4⟩ := h
  refine (ldo_put w lb rb sb ge ent on h1 p hp n h4).mono ?_
  rintro e w' ⟨he, ge', hs, hg, hk⟩
  exact ⟨he, LD.lst_step h2 h3 (by rw [insAt_len _ _ _ hp]; omega) hs hk hg⟩
end
end Go.Proofs.YtclflmjpdglgiaaGreat
