/-
  Contract: (*open.Tree).make: a node is added behind the others, its attributes in new memory; or refused, where there are enough.
-/
import Derived.Test.YtidbihdnginmcaaOpenC
import Derived.Test.YtidbihdnginmcaaOpenOps
import Derived.Test.YtidbihdnginmcaaMemD
import Derived.Test.YtidbihdnginmcaaCalm
import Derived.Deep.DeepMust
import Derived.Deep.RegionLaw
import Derived.Deep.AppendLies
import Derived.Lib.BufferMore
namespace Go.Proofs.Ytidbihdnginmcaa
open Go.RowKit Mem

theorem info_node : (Try.prog.info? 88).map (fun i => (i.zero, i.size, i.bytes)) = some (some (.agg #[.bool false, .int .i64 0, .string ⟨#[]⟩, .slice none 0 0, .string ⟨#[]⟩, .int .i64 0, .slice none 0 0]), 7, 104) := by kernel_rfl
theorem info_atr : (Try.prog.info? 81).map (fun i => (i.zero, i.size, i.bytes)) = some (some (.agg #[.string ⟨#[]⟩, .string ⟨#[]⟩]), 2, 32) := by kernel_rfl

theorem cells_of {w : World} {B : Nat} {v0 v1 v2 v3 v4 v5 v6 : Value} {t : TypeId} (h : w.heap[B]? = some (.cells #[v0, v1, v2, v3, v4, v5, v6] t (0, 0))) :
    w.cell? ⟨B, 0, none⟩ = some v0 ∧ w.cell? ⟨B, 1, none⟩ = some v1 ∧ w.cell? ⟨B, 2, none⟩ = some v2 ∧ w.cell? ⟨B, 3, none⟩ = some v3 ∧ w.cell? ⟨B, 4, none⟩ = some v4 ∧ w.cell? ⟨B, 5, none⟩ = some v5 ∧ w.cell? ⟨B, 6, none⟩ = some v6 := by
  simp only [cell_of_row w B _ _ _ _ h]
  exact ⟨rfl, rfl, rfl, rfl, rfl, rfl, rfl⟩

/-- the node is laid, the tree holds its new row -/
theorem make_end {T : TreeD} {tb g gg cap5 capg : Nat} {w w5 w6 : World} {o : Obj} {Cs : List (List Value)} {el : Bool} {sp : Int} {nm tx : ByteArray} {l : List Pair} {a2 : Option Addr} {c2 : Nat}
    (ht1 : tb < w.heap.size) (ht2 : g < w.heap.size) (hne : tb ≠ g) (HTB : w5.heap[tb]? = some (.cells #[.slice (some ⟨g, 0, none⟩) T.nodes.length cap5, .int .i64 T.most] 91 (0, 0)))
    (hl : Cs.length = T.nodes.length) (HN : ∀ i (h : i < Cs.length) (h' : i < T.nodes.length), NodeAt (Dat T.far tb g) w5 Cs[i] T.nodes[i]) (HFar : ∀ k, T.far k → k < w5.heap.size ∧ k ≠ tb ∧ k ≠ g) (HFw : ∀ k, T.far k → k < w.heap.size) (HB5 : Below w.heap.size w w5)
    (HAT : AtF (fun k => k < w.heap.size + 1) w5 a2 (pairsV l)) (k1 : l.length ≤ c2) (k2 : c2 ≤ maxLen) (k3 : a2 = none → c2 = 0)
    (hgr : (w5.drew.alloc o).grownBy w6 (Value.slice (some ⟨g, 0, none⟩) T.nodes.length cap5).ownBlock) (hat : (Value.slice (some ⟨g, 0, none⟩) T.nodes.length cap5).ownBlock = some gg ∨ gg = w5.heap.size + 1)
    (ho : w6.ownsRow 0 88 7 (.slice (some ⟨gg, 0, none⟩) (T.nodes.length + 1) capg) (T.nodes.length + 1) (Cs.flatten ++ [.bool el, .int .i64 sp, .string nm, .slice a2 l.length c2, .string tx, .int .i64 (-1), .slice none 0 0])) :
    TreeO (w6.setCell ⟨tb, 0, none⟩ (.slice (some ⟨gg, 0, none⟩) (T.nodes.length + 1) capg)) tb gg (addF T ⟨el, sp, nm, l, tx, -1, []⟩) ∧
      Keeps (Two tb g) w (w6.setCell ⟨tb, 0, none⟩ (.slice (some ⟨gg, 0, none⟩) (T.nodes.length + 1) capg)) ∧ (gg = g ∨ w.heap.size ≤ gg) := by
  have hs5 := HB5.size
  have hk6 : Keeps (· = g) w5 w6 := by
    refine ⟨hgr.os, hgr.tape, hgr.output, ?_, fun k hk hF => ?_⟩
    · have := hgr.size
      simp at this
      omega
    · refine (hgr.block k (by simp; omega) (fun e => ?_)).trans (Below.heap_alloc w5.drew o k hk)
      simp only [Value.ownBlock, Option.some.injEq] at e
      exact hF e
  have hg : gg = g ∨ gg = w5.heap.size + 1 := by
    rcases hat with h | h
    · simp only [Value.ownBlock, Option.some.injEq] at h
      exact .inl h.symm
    · exact .inr h
  refine ⟨tree_push hne HTB hl HN HFar hk6 ho (by omega) ⟨a2, c2, none, 0, rfl, k1, k2, k3, Nat.le_refl _, by decide, .inl ⟨rfl, rfl⟩, ?_, fun j u hj => by simp [intsV] at hj⟩, ?_, by omega⟩
  · intro j u hj
    obtain ⟨b, o', rfl, hF, hc⟩ := HAT j u hj
    have hb := lt_of_cell hc
    simp only at hF hb
    refine ⟨b, o', rfl, ?_, ?_⟩
    · rintro ((h | h) | h)
      · omega
      · omega
      · have := HFw b h
        omega
    · rw [World.cell?_of_block (w := w5) (hk6.block b hb (by omega))]
      exact hc
  · refine ((Keeps.ofBelow HB5).trans (hk6.mono fun k _ h => ?_)).set (.inl (.inl rfl)) _
    exact .inr h

set_option maxRecDepth 100000 in
set_option maxHeartbeats 8000000 in
theorem make_yes (T : TreeD) (tb g : Nat) (w : World) (el : Bool) (sp p0 : Int) (nm tx : ByteArray) (l : List Pair) (a : Option Addr) (c : Nat) (hc : a = none → c = 0) (hlen : l.length ≤ 1048576) (hn : T.nodes.length ≤ 1048576)
    (h : TreeO w tb g T) (ha : At w a (pairsV l)) (hm : (T.nodes.length : Int) - 1 < T.most) :
    Calls Try.prog 62 #[.pointer (some ⟨tb, 0, none⟩), .agg #[.bool el, .int .i64 sp, .string nm, .slice a l.length c, .string tx, .int .i64 p0, .slice none 0 0]] w fun e w' =>
      ∃ g', Keeps (Two tb g) w w' ∧ (g' = g ∨ w.heap.size ≤ g') ∧ e = .returned (.tuple #[.int .i64 T.nodes.length, .int .i64 0]) ∧ TreeO w' tb g' (addF T ⟨el, sp, nm, l, tx, -1, []⟩) := by
  obtain ⟨cap, h1, h2, c0, c1, _, _⟩ := h.head
  unfold maxLen at h2
  obtain ⟨ht1, ht2⟩ := h.lt
  have HT := Lib.hid h
  have HFW := Lib.hid (fun k hk => (h.far_lt k hk).1)
  have HA := Lib.hid ha
  have HC := Lib.hid hc
  clear h ha hc
  go_enter Try.func62, Try.ntmps62
  go_wp2_with fail
  have hB := heap_alloc_new w (.cells #[.bool el, .int .i64 sp, .string nm, .slice a l.length c, .string tx, .int .i64 p0, .slice none 0 0] 88)
  have hb1 := (Below.refl w.heap.size w).alloc (Nat.le_refl _) (.cells #[.bool el, .int .i64 sp, .string nm, .slice a l.length c, .string tx, .int .i64 p0, .slice none 0 0] 88)
  have hl1 : w.heap.size < (w.alloc (.cells #[.bool el, .int .i64 sp, .string nm, .slice a l.length c, .string tx, .int .i64 p0, .slice none 0 0] 88)).heap.size := by simp
  generalize w.alloc (.cells #[.bool el, .int .i64 sp, .string nm, .slice a l.length c, .string tx, .int .i64 p0, .slice none 0 0] 88) = w1 at *
  have d1 := cell_later hb1 c1
  have HT1 := Lib.hid (HT.out.below hb1)
  have HB1 := Lib.hid hb1
  have HW := Lib.hid hB
  clear hb1 hB
  refine wp_region_calm (by kernel_rfl) (by kernel_rfl) ?_
  repeat
    with_reducible refine wpQuiet_step (fun K hK => ?_)
    first
      | (with_reducible apply calm_skip
         · rfl
         simp only [Act.put, List.setIfInBounds_toArray, List.set_cons_zero, List.set_cons_succ]
         refine hK _ ?_
         clear hK K)
      | (with_reducible apply calm_run
         · rfl
         · intro wq hC
           have zd1 := cell_later hC.out d1
           unfold Oper.quietAt
           go_simp
           first | done | (go_at_call 20; go_must (refine (len_any T tb g _ (HT1.out.below hC.out)).mono ?_; rintro e wx ⟨rfl, rfl⟩; exact ⟨rfl, hC⟩)) | with_reducible rfl | rfl
         simp only [Act.put, List.setIfInBounds_toArray, List.set_cons_zero, List.set_cons_succ]
         refine hK _ ?_
         clear hK K)
  with_reducible refine wpQuiet_nil ?_
  intro wq HQ
  have zd1 := cell_later HQ.out d1
  have hB := (HQ.out.block w.heap.size hl1).trans HW.out
  have HT2 := Lib.hid (HT1.out.below HQ.out)
  have HB := Lib.hid (belowCall HB1.out HQ.out)
  have hlq : w.heap.size < wq.heap.size := Nat.lt_of_lt_of_le hl1 HQ.out.size
  have f5 := frozen_of_row _ _ 5 _ _ hB
  obtain ⟨_, _, _, _, _, q5, _⟩ := cells_of hB
  have hB3 := (Below.heap_alloc _ (.cells #[] 81) w.heap.size (by simpa using hlq)).trans (Lib.heap_setCell_same (i := 5) hB (.int .i64 (-1)))
  have hb3 := (HB.out.setCell (p := ⟨w.heap.size, 5, none⟩) (Nat.le_refl _) (.int .i64 (-1))).alloc (by simpa using Nat.le_of_lt hlq) (.cells #[] 81)
  have hs3 : ((wq.setCell ⟨w.heap.size, 5, none⟩ (.int .i64 (-1))).alloc (.cells #[] 81)).heap.size = wq.heap.size + 1 := by simp
  have HE : Hid (((wq.setCell ⟨w.heap.size, 5, none⟩ (.int .i64 (-1))).alloc (.cells #[] 81)).ownsRow (w.heap.size + 1) 81 2 (.slice (some ⟨wq.heap.size, 0, none⟩) 0 0) 0 []) := Lib.hid (by
    have := World.ownsRow_lit (base := w.heap.size + 1) (e := 81) (size := 2) (wq.setCell ⟨w.heap.size, 5, none⟩ (.int .i64 (-1))) #[] 0 (by simp; omega) (Nat.zero_le _) rfl
    simpa using this)
  obtain ⟨_, _, _, q3, _, _, _⟩ := cells_of hB3
  have f3 := frozen_of_row _ _ 3 _ _ hB3
  have HB3 := Lib.hid hb3
  have HW3 := Lib.hid hB3
  have HA3 := Lib.hid (HA.out.below hb3)
  have HT3 := Lib.hid (HT.out.below hb3)
  have HS3 := Lib.hid hs3
  obtain ⟨i0, hi, hz0, hz1, hz2⟩ := info_parts info_atr
  have b0 : 0 + l.length ≤ maxLen := by unfold maxLen; omega
  have b1 : (0 + l.length) * 32 ≤ 140737488355328 := by omega
  have HNL := Lib.hid (pairsV_length l)
  have HNE : Hid (some w.heap.size ≠ (Value.slice (some ⟨wq.heap.size, 0, none⟩) 0 0).ownBlock) := Lib.hid (fun e => by simp only [Value.ownBlock, Option.some.injEq] at e; omega)
  have HNB : Hid (∀ k, (Value.slice (some ⟨wq.heap.size, 0, none⟩) 0 0).ownBlock = some k → w.heap.size ≤ k) := Lib.hid (fun k e => by simp only [Value.ownBlock, Option.some.injEq] at e; omega)
  have HT0 := HT
  clear hB HW HT1 HT2 HB1 hl1 hb3 hB3 HB HA hs3
  go_wp2_with (at_builtin; go_must (refine wpList_append_slice _ rfl _ _ 29 rfl (w.heap.size + 1) 81 i0 _ 2 32 Try.underlying29 hi hz0 hz1 hz2 rfl (by decide) _ 0 [] rfl HE.out a l.length c (pairsV l) rfl HNL.out HC.out HA3.out (pairsV_one l) b0 b1 (by rw [HS3.out]; omega) ?_; intro v2 w4 hown2 hgr2; simp only [Nat.zero_add, List.nil_append] at hown2; obtain ⟨a2, c2, rfl, k1, k2, k3, k4⟩ := own_atF (F := (· < w.heap.size + 1)) hown2 (fun _ h => h); have hW4 := (hgr2.block w.heap.size (by rw [HS3.out]; omega) HNE.out).trans HW3.out; obtain ⟨_, _, _, q3', _⟩ := cells_of hW4; have f3' := frozen_of_row _ _ 3 _ _ hW4; have HB4 := Lib.hid (HB3.out.grown hgr2 (by rw [HS3.out]; omega) HNB.out); have HW4 := Lib.hid hW4; have HK4 := Lib.hid k4; have HG3 := Lib.hid k3.nil; clear hown2 hgr2 k4 k3 hW4 HB3 HW3 HA3 HT3 HS3 HE q3 f3 q5 f5))
  have hB5 := Lib.heap_setCell_same (i := 3) HW4.out (.slice a2 l.length c2)
  have hb5 := HB4.out.setCell (p := ⟨w.heap.size, 3, none⟩) (Nat.le_refl _) (.slice a2 l.length c2)
  have hat5 : AtF (fun k => k < w.heap.size + 1) (w4.setCell ⟨w.heap.size, 3, none⟩ (.slice a2 l.length c2)) a2 (pairsV l) :=
    HK4.out.kept ((Keeps.refl _ _).set (.inl (Nat.lt_succ_self _)) _)
  clear HB4 HW4 HK4
  generalize w4.setCell ⟨w.heap.size, 3, none⟩ (.slice a2 l.length c2) = w5 at *
  have ht5 := (HT0.out.below hb5)
  have hlt5 := row_lt hB5
  obtain ⟨cap5, Cs, hne, htb, hown, hl, hnd, hfar⟩ := ht5.open_
  have s5 := cell_of_row w5 tb 0 _ _ _ htb
  obtain ⟨r0, r1, r2, r3, r4, r5, r6⟩ := cells_of hB5
  clear c0 c1 d1 zd1 HQ
  obtain ⟨i1, hi1, hy0, hy1, hy2⟩ := info_parts info_node
  have g0 : T.nodes.length + 1 ≤ maxLen := by unfold maxLen; omega
  have g1 : (T.nodes.length + 1) * 104 ≤ 140737488355328 := by omega
  have hlg := ht5.lt
  have HO := Lib.hid hown
  have HTG : Hid (some tb ≠ (Value.slice (some ⟨g, 0, none⟩) T.nodes.length cap5).ownBlock) := Lib.hid (fun e => by simp only [Value.ownBlock, Option.some.injEq] at e; exact hne e)
  have HN := Lib.hid hnd
  have HFA := Lib.hid hfar
  have HTB := Lib.hid htb
  have HAT := Lib.hid hat5
  have HB5 := Lib.hid hb5
  clear hown hnd hfar htb hat5 hb5 ht5 hB5
  clear hi hz0 hz1 hz2 b0 b1 HNL HNE HNB HT0 HT HC
  go_region_law (go_must (refine step_append_lies _ (by rfl) _ _ _ (by rfl) 0 88 i1 _ 7 104 Try.underlying89 hi1 hy0 hy1 hy2 rfl (by omega) _ T.nodes.length _ (by rfl) ((HO.out.drew).alloc _) ⟨w5.heap.size, 0, none⟩ 1 1 [.bool el, .int .i64 sp, .string nm, .slice a2 l.length c2, .string tx, .int .i64 (-1), .slice none 0 0] (by rfl) (by rfl) (World.news_of_block (cs := #[.bool el, .int .i64 sp, .string nm, .slice a2 l.length c2, .string tx, .int .i64 (-1), .slice none 0 0]) (t := 88) (fr := (0, 0)) (heap_alloc_new w5.drew _)) (by simp [Value.oneCell']) (by omega) g0 g1 (Nat.zero_le _) (w5.heap.size + 1) (by simp) ?_; intro gg capg w6 hown6 hgrow6 hat6 hlt6; have htb6 := (hgrow6.block tb (by simp; omega) HTG.out).trans ((Below.heap_alloc w5.drew _ tb hlg.1).trans HTB.out); have s6 := cell_of_row w6 tb 0 _ _ _ htb6; have f6 := frozen_of_row w6 tb 0 _ _ htb6; clear htb6))
  all_goals
    obtain ⟨hT7, hK7, hg7⟩ := make_end ht1 ht2 hne HTB.out hl HN.out HFA.out HFW.out HB5.out HAT.out k1 k2 HG3.out hgrow6 hat6 hown6
    have HT7 := Lib.hid hT7
    have HK7 := Lib.hid hK7
    clear hT7 hK7 hown6 hgrow6 hat6 HN HO HTB HAT
    go_wp2_with (go_at_call 20; go_must (refine (len_any _ tb gg _ HT7.out).mono ?_; rintro e wx ⟨rfl, rfl⟩))
    go_ret2
    exact ⟨gg, HK7.out, hg7, by simp [addF], HT7.out⟩
end Go.Proofs.Ytidbihdnginmcaa
