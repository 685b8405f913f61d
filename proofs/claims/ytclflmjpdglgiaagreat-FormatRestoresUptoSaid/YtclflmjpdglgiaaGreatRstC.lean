/-
  Contract: the document's open elements: Pop. No conditions beyond those that each lemma types.
-/
import Derived.Test.YtclflmjpdglgiaaGreatRstB
namespace Go.Proofs.YtclflmjpdglgiaaGreat
open Go.RowKit Mem

set_option maxRecDepth 100000 in
set_option maxHeartbeats 4000000 in
theorem rst_pop (w : World) (sb tb : Nat) (gs : Option Nat) (l : List Int) (h : RstO w sb tb gs l) (hl : l.length ≤ 1048576) :
    Calls Tryz.prog 32 #[.pointer (some ⟨sb, 0, none⟩)] w fun e w' => e = .returned (.int .i64 (l.getLast?.getD 0)) ∧ ∃ gs', RstO w' sb tb gs' l.dropLast ∧ (∀ k, gs' = some k → gs = some k ∨ w.heap.size ≤ k) ∧ Keeps (SB sb gs) w w' := by
  have HT := Lib.hid (rst_top w sb tb gs l h hl)
  have HS := Lib.hid h
  rcases (show l = [] ∨ ∃ r x, l = r ++ [x] from (List.eq_nil_or_concat l).imp id fun ⟨r, x, h⟩ => ⟨r, x, by rw [h, List.concat_eq_append]⟩) with rfl | ⟨r, x, rfl⟩
  · obtain ⟨a, c, c0, c1, _⟩ := h.cells
    clear h
    go_enter Tryz.func32, Tryz.ntmps32
    go_wp2_with (go_at_call 60; go_must (refine HT.out.mono ?_; rintro e w1 ⟨rfl, q, rfl⟩; have d1 := (show (w.drewN q).cell? ⟨sb, 1, none⟩ = some (.slice a 0 c) from c1)))
    go_ret
    exact ⟨rfl, gs, HS.out.below (stk_drewN _ _), fun k hk => .inl hk, Keeps.ofBelow (stk_drewN _ _)⟩
  · have hlast : (r ++ [x]).getLast?.getD 0 = x := by simp
    rw [hlast] at HT ⊢
    have hdrop : (r ++ [x]).dropLast = r := by simp
    rw [hdrop]
    obtain ⟨a, c, c0, c1, hat, hown, f1, _⟩ := h.cells
    have hlen : (r ++ [x]).length = r.length + 1 := by simp
    rw [hlen] at c1 hl
    have hlt := h.lt sb (.inl rfl)
    obtain ⟨_, _, he, hc1, hc2, _⟩ := own_at hown.1
    have he := congrArg (fun v => match v with | .slice _ _ c => c | _ => 0) he
    simp only at he
    subst he
    rw [hlen] at hc1
    have HA := Lib.hid hat
    have hnn : a ≠ none := by
      rintro rfl
      obtain ⟨_, _, e, _⟩ := hat 0 _ (intsV_get (r ++ [x]) 0 (by simp))
      cases e
    have HAN := Lib.hid (show a = none → c = 0 from fun e => absurd e hnn)
    have hw1 : IntKind.i64.wrap ((r.length : Int) + 1 - 1) = (r.length : Int) := by rw [IntKind.wrap_i64]; omega
    have hw2 : IntKind.i64.wrap (r.length : Int) = (r.length : Int) := by rw [IntKind.wrap_i64]; omega
    have hrc : (r.length : Int) ≤ (c : Int) := by omega
    obtain ⟨i0, hi, hz0, hz1, hz2⟩ := info_parts stk_int
    have b0 : 0 + r.length ≤ maxLen := by unfold maxLen; omega
    have b1 : (0 + r.length) * 8 ≤ 140737488355328 := by omega
    have N1 := Lib.hid (show (intsV r).length = r.length * 1 by rw [intsV_length, Nat.mul_one])
    unfold maxLen at hc2
    clear h hat hown hlen hlast hdrop hnn
    go_enter Tryz.func32, Tryz.ntmps32
    go_wp2_with (go_at_call 60; go_must (refine HT.out.mono ?_; rintro e w1 ⟨rfl, q, rfl⟩; have d1 := (show (w.drewN q).cell? ⟨sb, 1, none⟩ = some (.slice a (r.length + 1) c) from c1)))
    have hbq := stk_drewN w q
    generalize w.drewN q = wq at *
    have k1 := cell_later hbq c1
    have HK1 := Lib.hid ((Keeps.refl Non wq).drew.alloc (.cells #[] 3))
    have f1q := (hbq.frozen (p := ⟨sb, 1, none⟩) hlt).trans f1
    have E1 : Hid ((wq.drew.alloc (.cells #[] 3)).ownsRow wq.heap.size 3 1 (.slice (some ⟨wq.heap.size, 0, none⟩) 0 0) 0 []) := Lib.hid (World.ownsRow_lit wq.drew #[] 0 (Nat.le_refl _) (Nat.zero_le _) rfl)
    have B1 : Hid (∀ j, (Value.slice (some ⟨wq.heap.size, 0, none⟩) 0 0).ownBlock = some j → wq.heap.size ≤ j) := Lib.hid (fun j e => by simp only [Value.ownBlock, Option.some.injEq] at e; omega)
    have hatq := (HA.out.below hbq).below (non_below HK1.out)
    rw [intsV_append] at hatq
    have A1 := Lib.hid hatq.left
    have HBq := Lib.hid hbq
    have hltq : sb < wq.heap.size := Nat.lt_of_lt_of_le hlt hbq.size
    clear c1 c0 f1 d1 hatq hbq HT HA
    go_region_law (refine step_append_slice (by rfl) _ _ 30 (by rfl) wq.heap.size 3 i0 _ 1 8 Tryz.underlying30 hi hz0 hz1 hz2 rfl (by decide) _ 0 [] (by rfl) E1.out a r.length c (intsV r) (by rfl) N1.out HAN.out A1.out (intsV_one _) b0 b1 HK1.out.size ?_; intro v4 w4 hown4 hgr4; simp only [Nat.zero_add, List.nil_append] at hown4; have K4 : Hid (Keeps Non wq w4) := Lib.hid (keeps_grown HK1.out hgr4 B1.out); have k4 := non_cell K4.out k1; have f4 := (non_frozen (p := ⟨sb, 1, none⟩) K4.out hltq).trans f1q; obtain ⟨a4, c4, rfl, _, _, _, _⟩ := own_at hown4; have O4 := Lib.hid hown4; clear hown4 hgr4)
    all_goals
      obtain ⟨hL, hL2⟩ := ((HS.out.below HBq.out).below (non_below K4.out)).lay rfl O4.out hltq
      have HLL := Lib.hid hL
      have HL2 := Lib.hid hL2
      have HK := Lib.hid ((Keeps.ofBelow (F := SB sb gs) (belowCall HBq.out (non_below K4.out))).set (p := ⟨sb, 1, none⟩) (.inl (.inl rfl)) (.slice a4 r.length c4))
      clear hL hL2
      go_wp2_with fail
      go_ret
      exact ⟨rfl, _, HLL.out, fun k hk => .inr (by have := HL2.out k hk; have := HBq.out.size; omega), HK.out⟩
end Go.Proofs.YtclflmjpdglgiaaGreat
