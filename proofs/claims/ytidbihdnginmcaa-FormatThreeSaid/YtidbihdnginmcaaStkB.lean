/-
  Contracts: the open elements' Push and Pop, beside a tree.
-/
import Derived.Test.YtidbihdnginmcaaStkA
namespace Go.Proofs.Ytidbihdnginmcaa
open Go.RowKit Mem

theorem stk_grown {F : Nat → Prop} {a w w' : World} {row : Option Nat} (h : Keeps F a w) (hg : w.grownBy w' row) (hr : ∀ k, row = some k → F k ∨ a.heap.size ≤ k) : Keeps F a w' :=
  ⟨hg.os.trans h.os, hg.tape.trans h.tape, hg.output.trans h.output, Nat.le_trans h.size hg.size, fun k hk hF => (hg.block k (Nat.lt_of_lt_of_le hk h.size) fun e => by
    rcases hr k e.symm with h' | h'
    · exact hF h'
    · omega).trans (h.block k hk hF)⟩

section
variable (w : World) (sb tb : Nat) (gs : Option Nat) (l : List Int)
set_option maxRecDepth 100000 in
theorem stk_push (h : StkO w sb tb gs l) (n : Int) (hl : l.length ≤ 1048576) : Calls Try.prog 27 #[.pointer (some ⟨sb, 0, none⟩), .int .i64 n] w fun e w' =>
    e = .returned (.tuple #[]) ∧ ∃ g2, StkO w' sb tb (some g2) (l ++ [n]) ∧ (gs = some g2 ∨ w.heap.size ≤ g2) ∧ Keeps (SB sb gs) w w' := by
  have hlt := h.lt sb (.inl rfl)
  have hgl := fun k hk => h.lt k (.inr hk)
  obtain ⟨a, c, c0, c1, hat, hown, _, hrow, _, hne⟩ := h.cells
  have d1 : (w.alloc (.cells #[.int .i64 n] 3)).heap[sb]? = w.heap[sb]? := heap_alloc_old w _ hlt
  have HQ := Lib.hid (hown.1.alloc (.cells #[.int .i64 n] 3))
  have HB0 : Hid ((Value.slice a l.length c).ownBlock = gs) := hown.2
  have HN := Lib.hid (show At (w.alloc (.cells #[.int .i64 n] 3)) (some ⟨w.heap.size, 0, none⟩) (intsV [n]) from at_alloc rfl rfl)
  obtain ⟨i0, hi, hz0, hz1, hz2⟩ := info_parts stk_int
  have b0 : l.length + 1 ≤ maxLen := by unfold maxLen; omega
  have b1 : (l.length + 1) * 8 ≤ 140737488355328 := by omega
  have hsz : sb < (w.alloc (.cells #[.int .i64 n] 3)).heap.size := by simp; omega
  have HR := Lib.hid (d1.trans hrow)
  have HNE : Hid (some sb ≠ (Value.slice a l.length c).ownBlock) := Lib.hid (by rw [HB0.out]; exact hne.symm)
  have HL := Lib.hid hgl
  have HGS := Lib.hid hne
  clear hrow hown hne hat d1 h hgl
  go_enter Try.func27, Try.ntmps27
  go_wp2_with (at_builtin; go_must (refine wpList_append_lies _ rfl _ _ 32 rfl 0 3 i0 _ 1 8 Try.underlying32 hi hz0 hz1 hz2 rfl (by decide) _ l.length (intsV l) rfl HQ.out ⟨w.heap.size, 0, none⟩ 1 1 (intsV [n]) rfl rfl HN.out.news (intsV_one _) (by decide) b0 b1 (Nat.zero_le _) (w.heap.size + 1) (by simp) ?_; intro g2 cap2 w2 hown2 hgr2 hat2 hlt2; have hb2 := (hgr2.block sb hsz HNE.out).trans HR.out; have HRR := Lib.hid hb2; have s1 := Row.cell (xs := [.pointer (some ⟨tb, 0, none⟩), .slice a l.length c]) ⟨_, _, _, _, hb2, rfl, .inr rfl⟩ (j := 1) rfl; have f1 := Row.frozen (xs := [.pointer (some ⟨tb, 0, none⟩), .slice a l.length c]) ⟨_, _, _, _, hb2, rfl, .inr rfl⟩ (j := 1) (by simp); have HO2 := Lib.hid hown2; have HG2 := Lib.hid hgr2; have HA2 := Lib.hid hat2; clear hown2 hgr2 hb2 hat2))
  go_end0
  have hg2 : gs = some g2 ∨ w.heap.size + 1 = g2 := by
    rcases HA2.out with h | h
    · exact .inl (HB0.out.symm.trans h)
    · exact .inr h.symm
  have hne2 : g2 ≠ sb := by
    rintro rfl
    rcases hg2 with h | h
    · exact HGS.out h
    · omega
  refine ⟨rfl, g2, ⟨.slice (some ⟨g2, 0, none⟩) (l.length + 1) cap2, Lib.heap_setCell_same (i := 1) HRR.out _, ⟨?_, rfl⟩, by simpa using hne2⟩, hg2.imp id (fun h => by omega), ?_⟩
  · have := own_kept HO2.out (w' := w2.setCell ⟨sb, 1, none⟩ (.slice (some ⟨g2, 0, none⟩) (l.length + 1) cap2)) fun b hb => heap_setCell_other _ _ _ _ (by simp only [Value.ownBlock, Option.some.injEq] at hb; subst hb; exact hne2)
    rw [intsV_append, List.length_append]
    exact this
  · exact (stk_grown ((Keeps.refl _ _).alloc _) HG2.out fun k hk => .inl (.inr (HB0.out.symm.trans hk))).set (p := ⟨sb, 1, none⟩) (.inl (.inl rfl)) _

theorem own_shrink {w : World} {base : Nat} {e : TypeId} {a : Option Addr} {n c : Nat} {xs : List Value} {y : Value} (h : w.ownsRow base e 1 (.slice a (n + 1) c) (n + 1) (xs ++ [y])) (hx : xs.length = n) : w.ownsRow base e 1 (.slice a n c) n xs := by
  rcases h.2 with ⟨he, _⟩ | ⟨g, cap, cur, he, hbg, hg, hnc, hcm, hcs, htake⟩
  · cases he
  · injection he with e1 _ e3
    subst e1
    subst e3
    refine ⟨by simpa using hx, .inr ⟨g, c, cur, rfl, hbg, hg, by omega, hcm, hcs, ?_⟩⟩
    have h1 : cur.toList.take (n + 1) = xs ++ [y] := by simpa using htake
    have h2 := congrArg (List.take n) h1
    rw [List.take_take, Nat.min_eq_left (Nat.le_succ n), ← hx, List.take_left] at h2
    simpa [hx] using h2

set_option maxRecDepth 100000 in
set_option maxHeartbeats 1000000 in
theorem stk_pop (h : StkO w sb tb gs l) (hl : l.length ≤ 1048576) :
    Calls Try.prog 67 #[.pointer (some ⟨sb, 0, none⟩)] w fun e w' => e = .returned (.int .i64 (l.getLast?.getD 0)) ∧ StkO w' sb tb gs l.dropLast ∧ Keeps (SB sb gs) w w' := by
  have HT := Lib.hid (stk_top w sb tb gs l h hl)
  have HS := Lib.hid h
  rcases (show l = [] ∨ ∃ r x, l = r ++ [x] from (List.eq_nil_or_concat l).imp id fun ⟨r, x, h⟩ => ⟨r, x, by rw [h, List.concat_eq_append]⟩) with rfl | ⟨r, x, rfl⟩
  · obtain ⟨a, c, c0, c1, _⟩ := h.cells
    clear h
    go_enter Try.func67, Try.ntmps67
    go_wp2_with (go_at_call 33; go_must (refine HT.out.mono ?_; rintro e w1 ⟨rfl, q, rfl⟩; have d1 := (show (w.drewN q).cell? ⟨sb, 1, none⟩ = some (.slice a 0 c) from c1)))
    go_ret
    exact ⟨rfl, HS.out.below (stk_drewN _ _), Keeps.ofBelow (stk_drewN _ _)⟩
  · have hlast : (r ++ [x]).getLast?.getD 0 = x := by simp
    rw [hlast] at HT ⊢
    have hdrop : (r ++ [x]).dropLast = r := by simp
    rw [hdrop]
    have hlen : (r ++ [x]).length = r.length + 1 := by simp
    rw [hlen] at hl
    clear h hlast hdrop
    obtain ⟨a, c, c0, c1, hat, hown, f1, hrow, hna, hne⟩ := HS.out.cells
    rw [hlen] at c1 hrow hown
    obtain ⟨bb, o, rfl⟩ := hat.some_of (by simp [intsV])
    obtain ⟨gg, cap, hv, _, hcn, hcm⟩ := own_some hown.1 (by rw [hlen]; exact Nat.succ_pos _)
    injection hv with ea e2 ec
    clear e2
    injection ea with ea
    injection ea with ea1 ea2 ea3
    clear ea3
    subst ea1
    subst ea2
    subst ec
    rw [hlen] at hcn
    unfold maxLen at hcm
    have HOW := Lib.hid hown
    have HR := Lib.hid hrow
    have HNE := Lib.hid hne
    clear hat hown hrow hna hne hlen
    have HXL : Hid ((intsV (r ++ [x])).length = r.length + 1) := Lib.hid (by rw [intsV_length]; simp)
    have HLL : Hid ((r ++ [x]).length = r.length + 1) := Lib.hid (by simp)
    generalize hnn : r.length = n at *
    have q1 : (n : Int) + 1 - 1 = (n : Int) := by omega
    go_enter Try.func67, Try.ntmps67
    go_wp2_with (go_at_call 33; go_must (refine HT.out.mono ?_; rintro e w1 ⟨rfl, q, hw1⟩; have c1' := (show w1.cell? ⟨sb, 1, none⟩ = some (.slice (some ⟨bb, 0, none⟩) (n + 1) c) from (by rw [hw1]; exact c1)); have f1' := (show w1.frozen? ⟨sb, 1, none⟩ = false from (by rw [hw1]; exact f1)); have d1 := (show w1.drew.cell? ⟨sb, 1, none⟩ = some (.slice (some ⟨bb, 0, none⟩) (n + 1) c) from c1'); have g1 := (show w1.drew.frozen? ⟨sb, 1, none⟩ = false from f1'); have HW := Lib.hid hw1; clear hw1))
    go_region
    all_goals
      go_wp2
      go_ret
      obtain rfl := HW.out
      have hgs := HOW.out.2
      simp only [Value.ownBlock] at hgs
      have hne2 : bb ≠ sb := by rintro rfl; exact HNE.out hgs.symm
      have ho := HOW.out.1
      rw [HLL.out, intsV_append] at ho
      have ho2 := own_shrink ho (by rw [intsV_length, hnn])
      refine ⟨rfl, ⟨.slice (some ⟨bb, 0, none⟩) n c, Lib.heap_setCell_same (w := w) (i := 1) HR.out _, ⟨?_, by simpa [Value.ownBlock] using hgs⟩, HNE.out⟩, ?_⟩
      · rw [hnn]
        exact (own_kept ho2 (w' := w.setCell ⟨sb, 1, none⟩ (.slice (some ⟨bb, 0, none⟩) n c)) fun b hb => heap_setCell_other _ _ _ _ (by simp only [Value.ownBlock, Option.some.injEq] at hb; subst hb; exact hne2))
      · exact ((Keeps.ofBelow (F := SB sb gs) (stk_drewN w q)).set (p := ⟨sb, 1, none⟩) (.inl (.inl rfl)) _).drew
end
end Go.Proofs.Ytidbihdnginmcaa
