import Derived.Test.YtidbihdnginmcaaRfB
import Derived.Test.YtidbihdnginmcaaOpenWZ
import Derived.Deep.RegionHeld3
import Derived.Deep.RegionLaw
/-
  Plain lemma: a node's cells in the document's tree.
-/
namespace Go.Proofs.Ytidbihdnginmcaa
open Go.RowKit Mem

theorem RefO.node6 {w : World} {rb gn gk : Nat} {T : TreeD} (h : RefO w rb gn gk T) {i : Nat} (hi : i < T.nodes.length) :
    ∃ aa ac, (aa = none → ac = 0) ∧ T.nodes[i].attrs.length ≤ ac ∧ AtF (DatR T.far rb gn gk) w aa (pairsV T.nodes[i].attrs) ∧ w.cell? ⟨gn, i * 6, none⟩ = some (.bool T.nodes[i].elem) ∧ w.cell? ⟨gn, i * 6 + 1, none⟩ = some (.int .i64 T.nodes[i].space) ∧ w.cell? ⟨gn, i * 6 + 2, none⟩ = some (.string T.nodes[i].name) ∧
      w.cell? ⟨gn, i * 6 + 3, none⟩ = some (.slice aa T.nodes[i].attrs.length ac) ∧ w.cell? ⟨gn, i * 6 + 4, none⟩ = some (.string T.nodes[i].text) ∧ w.cell? ⟨gn, i * 6 + 5, none⟩ = some (.int .i64 T.nodes[i].parent) := by
  obtain ⟨_, _, _, _, h⟩ := h
  obtain ⟨aa, ac, h1, _, h3, h4, hc, _⟩ := h.node hi
  exact ⟨aa, ac, h3, h1, h4, hc 0 _ rfl, hc 1 _ rfl, hc 2 _ rfl, hc 3 _ rfl, hc 4 _ rfl, hc 5 _ rfl⟩

end Go.Proofs.Ytidbihdnginmcaa

/-
  Contract: (*colanderref14.Tree).Read: a node with all below it, in new memory.
-/
namespace Go.Proofs.Ytidbihdnginmcaa
open Go.RowKit Mem

set_option maxRecDepth 100000 in
set_option maxHeartbeats 4000000 in
theorem rread_text (T : TreeD) (rb gn gk : Nat) (w : World) (i : Nat) (hlt : i < T.nodes.length) (he : T.nodes[i].elem = false) (h : RefO w rb gn gk T) :
    Calls Try.prog 24 #[.pointer (some ⟨rb, 0, none⟩), .int .i64 i] w fun e w' => ∃ cs, e = .returned (.agg cs.toArray) ∧ NodeC (· < w.heap.size) w' cs (.mk 2 0 ⟨#[]⟩ [] T.nodes[i].text []) ∧ Below w.heap.size w w' := by
  obtain ⟨capn, capk, p1, p2, _, _, c0, _, _, l1, l2, l3⟩ := h.head
  obtain ⟨aa, ac, _, _, _, d0, d1, d2, d3, d4, d5⟩ := h.node6 hlt
  rw [he] at d0
  unfold maxLen at p2
  have hb := (Below.refl w.heap.size w).alloc (Nat.le_refl _) (.cells #[.int .i64 0, .int .i64 0, .string ⟨#[]⟩, .slice none 0 0, .string ⟨#[]⟩, .slice none 0 0] 36)
  have c0' := cell_later hb c0
  have d0' := cell_later hb d0
  have d1' := cell_later hb d1
  have d2' := cell_later hb d2
  have d3' := cell_later hb d3
  have d4' := cell_later hb d4
  have d5' := cell_later hb d5
  clear h hb
  go_enter Try.func24, Try.ntmps24
  go_wp2_with fail
  have hg : ((w.alloc (.cells #[.int .i64 2, .int .i64 0, .string ⟨#[]⟩, .slice none 0 0, .string T.nodes[i].text, .slice none 0 0] 36)).alloc (.cells #[.bool false, .int .i64 T.nodes[i].space, .string T.nodes[i].name, .slice aa T.nodes[i].attrs.length ac, .string T.nodes[i].text, .int .i64 T.nodes[i].parent] 93)).heap[w.heap.size]? = _ :=
    (Below.heap_alloc _ _ _ (by simp)).trans (heap_alloc_new w _)
  refine bodyPost_ret (results_cell_row rfl _ _ w.heap.size _ _ _ _ (by rfl) hg Try.underlying36 rfl size_out) rfl ?_
  refine ⟨nodeV 2 0 ⟨#[]⟩ none 0 0 T.nodes[i].text none 0 0, rfl, ?_, ((Below.refl _ _).alloc (Nat.le_refl _) _).alloc (by simp) _⟩
  exact .mk (attrs := []) (kids := []) [] (Nat.le_refl _) (Nat.zero_le _) (fun _ => rfl) (fun j u hj => by simp [pairsV] at hj) (Nat.le_refl _) (Nat.zero_le _) (fun _ => rfl) (fun j u hj => by simp at hj) rfl (fun i h => by simp at h)

set_option maxRecDepth 100000 in
set_option maxHeartbeats 8000000 in
theorem rread_elem (T : TreeD) (rb gn gk : Nat) (w : World) (i : Nat) (hlt : i < T.nodes.length) (he : T.nodes[i].elem = true) (h : RefO w rb gn gk T) (l : List Pair) (hl : l = T.nodes[i].attrs) (hlen : l.length ≤ 1048576) (d : Nat) (kl : List Int) (hkl : kl = kidsF T i) (hkn : kl.length ≤ 2097152)
    (hkids : ∀ j (h : j < kl.length), ∃ x : Nat, kl[j] = x ∧ 1 ≤ x ∧ x < T.nodes.length ∧ Deep d T x)
    (ih : ∀ (u : World) (x : Nat), 1 ≤ x → x < T.nodes.length → Deep d T x → RefO u rb gn gk T → Calls Try.prog 24 #[.pointer (some ⟨rb, 0, none⟩), .int .i64 x] u fun e u' => ∃ cs, e = .returned (.agg cs.toArray) ∧ NodeC (· < u.heap.size) u' cs (readN d T x) ∧ Below u.heap.size u u') :
    Calls Try.prog 24 #[.pointer (some ⟨rb, 0, none⟩), .int .i64 i] w fun e w' => ∃ cs, e = .returned (.agg cs.toArray) ∧ NodeC (· < w.heap.size) w' cs (.mk 1 T.nodes[i].space T.nodes[i].name l ⟨#[]⟩ (kl.map (readN d T))) ∧ Below w.heap.size w w' := by
  obtain ⟨capn, capk, p1, h2, p3, p4, c0, c1, _, l1, l2, l3⟩ := h.head
  obtain ⟨aa, ac, hA3, hal, hA, d0, d1, d2, d3, d4, d5⟩ := h.node6 hlt
  obtain ⟨ka, kc, kk1, kk2, _, hKA, dk, _⟩ := h.kidc hlt
  rw [he] at d0
  rw [← hl] at d3 hA hal
  rw [← hkl] at dk hKA kk1
  have HKL := Lib.hid (hKA.other (G := Non) fun b _ hb => hb.elim)
  have HIH := Lib.hid ih
  have HKD := Lib.hid hkids
  unfold maxLen at kk2 h2 p4
  have hb := (Below.refl w.heap.size w).alloc (Nat.le_refl _) (.cells #[.int .i64 0, .int .i64 0, .string ⟨#[]⟩, .slice none 0 0, .string ⟨#[]⟩, .slice none 0 0] 36)
  have c0' := cell_later hb c0
  have d0' := cell_later hb d0
  have d1' := cell_later hb d1
  have d2' := cell_later hb d2
  have d3' := cell_later hb d3
  have d4' := cell_later hb d4
  have d5' := cell_later hb d5
  have HA := Lib.hid hA.at
  have H3 := Lib.hid hA3
  have HT := Lib.hid h
  have C1 := Lib.hid c1
  have DK := Lib.hid dk
  clear h hA hA3 hb hl hKA hkl ih hkids c1 dk
  go_enter Try.func24, Try.ntmps24
  go_wp2_with fail
  generalize hW2 : (w.alloc (.cells #[.int .i64 0, .int .i64 0, .string ⟨#[]⟩, .slice none 0 0, .string ⟨#[]⟩, .slice none 0 0] 36)).alloc (.cells #[.bool true, .int .i64 T.nodes[i].space, .string T.nodes[i].name, .slice aa l.length ac, .string T.nodes[i].text, .int .i64 T.nodes[i].parent] 93) = w2
  have hs2 : w2.heap.size = w.heap.size + 2 := by rw [← hW2]; simp
  have hX : w2.heap[w.heap.size + 1]? = some (.cells #[.bool true, .int .i64 T.nodes[i].space, .string T.nodes[i].name, .slice aa l.length ac, .string T.nodes[i].text, .int .i64 T.nodes[i].parent] 93 (0, 0)) := by
    rw [← hW2]; exact heap_new_at (by simp)
  have hR : w2.heap[w.heap.size]? = some (.cells #[.int .i64 0, .int .i64 0, .string ⟨#[]⟩, .slice none 0 0, .string ⟨#[]⟩, .slice none 0 0] 36 (0, 0)) := by
    rw [← hW2]; exact (Below.heap_alloc _ _ _ (by simp)).trans (heap_alloc_new w _)
  have hb2 : Below w.heap.size w w2 := by
    rw [← hW2]; exact ((Below.refl _ _).alloc (Nat.le_refl _) _).alloc (by simp) _
  obtain ⟨⟨_, x1, x2, x3, _, _⟩, _⟩ := cells6r hX
  have hlX : w.heap.size + 1 < w2.heap.size := by omega
  have HS2 := Lib.hid hs2
  have HB2 := Lib.hid hb2
  have HR := Lib.hid hR
  have HXX := Lib.hid hX
  clear hs2 hb2 hR hX
  have K0 := Lib.hid (Keeps.refl Non w2).drew
  have K1 := Lib.hid ((Keeps.refl Non w2).alloc (.cells #[] 81)).drew
  have K2 := Lib.hid (((Keeps.refl Non w2).alloc (.cells #[] 81)).alloc (.cells #[.int .i64 0, .int .i64 0, .string ⟨#[]⟩, .slice none 0 0, .string ⟨#[]⟩, .slice none 0 0] 36)).drew
  have K4 := Lib.hid ((Keeps.refl Non w2).alloc (.cells #[.int .i64 0, .int .i64 0, .string ⟨#[]⟩, .slice none 0 0, .string ⟨#[]⟩, .slice none 0 0] 36)).drew
  have K3 := Lib.hid (((Keeps.refl Non w2).alloc (.cells #[.int .i64 0, .int .i64 0, .string ⟨#[]⟩, .slice none 0 0, .string ⟨#[]⟩, .slice none 0 0] 36)).alloc (.cells #[] 81)).drew
  have O1 : Hid ((w2.alloc (.cells #[] 81)).drew.ownsRow w2.heap.size 81 2 (.slice (some ⟨w2.heap.size, 0, none⟩) 0 0) 0 []) := Lib.hid (World.ownsRow_lit w2 #[] 0 (Nat.le_refl _) (Nat.zero_le _) rfl).drew
  have O2 := Lib.hid (((World.ownsRow_lit (base := w2.heap.size) (e := 81) (size := 2) w2 #[] 0 (Nat.le_refl _) (Nat.zero_le _) rfl).alloc (.cells #[.int .i64 0, .int .i64 0, .string ⟨#[]⟩, .slice none 0 0, .string ⟨#[]⟩, .slice none 0 0] 36)).drew)
  have O3 : Hid (((w2.alloc (.cells #[.int .i64 0, .int .i64 0, .string ⟨#[]⟩, .slice none 0 0, .string ⟨#[]⟩, .slice none 0 0] 36)).alloc (.cells #[] 81)).drew.ownsRow w2.heap.size 81 2 (.slice (some ⟨w2.heap.size + 1, 0, none⟩) 0 0) 0 []) := Lib.hid (by
    have := World.ownsRow_lit (base := w2.heap.size) (e := 81) (size := 2) (w2.alloc (.cells #[.int .i64 0, .int .i64 0, .string ⟨#[]⟩, .slice none 0 0, .string ⟨#[]⟩, .slice none 0 0] 36)) #[] 0 (by simp) (Nat.zero_le _) rfl
    exact World.ownsRow.drew (by simpa using this))
  have Z2 : Hid (((w2.alloc (.cells #[] 81)).alloc (.cells #[.int .i64 0, .int .i64 0, .string ⟨#[]⟩, .slice none 0 0, .string ⟨#[]⟩, .slice none 0 0] 36)).drew.heap[w2.heap.size + 1]? = some (.cells #[.int .i64 0, .int .i64 0, .string ⟨#[]⟩, .slice none 0 0, .string ⟨#[]⟩, .slice none 0 0] 36 (0, 0))) := Lib.hid (heap_new_at (w := w2.alloc (.cells #[] 81)) (by simp))
  have Z3 : Hid (((w2.alloc (.cells #[.int .i64 0, .int .i64 0, .string ⟨#[]⟩, .slice none 0 0, .string ⟨#[]⟩, .slice none 0 0] 36)).alloc (.cells #[] 81)).drew.heap[w2.heap.size]? = some (.cells #[.int .i64 0, .int .i64 0, .string ⟨#[]⟩, .slice none 0 0, .string ⟨#[]⟩, .slice none 0 0] 36 (0, 0))) := Lib.hid ((Below.heap_alloc (w2.alloc (.cells #[.int .i64 0, .int .i64 0, .string ⟨#[]⟩, .slice none 0 0, .string ⟨#[]⟩, .slice none 0 0] 36)) _ _ (by simp)).trans (heap_alloc_new w2 _))
  have B1 : Hid (∀ k, (Value.slice (some ⟨w2.heap.size, 0, none⟩) 0 0).ownBlock = some k → w2.heap.size ≤ k) := Lib.hid (fun k e => by simp only [Value.ownBlock, Option.some.injEq] at e; omega)
  have B3 : Hid (∀ k, (Value.slice (some ⟨w2.heap.size + 1, 0, none⟩) 0 0).ownBlock = some k → w2.heap.size ≤ k) := Lib.hid (fun k e => by simp only [Value.ownBlock, Option.some.injEq] at e; omega)
  have E2 : Hid (some (w2.heap.size + 1) ≠ (Value.slice (some ⟨w2.heap.size, 0, none⟩) 0 0).ownBlock) := Lib.hid (fun e => by simp only [Value.ownBlock, Option.some.injEq] at e; omega)
  have E3 : Hid (some w2.heap.size ≠ (Value.slice (some ⟨w2.heap.size + 1, 0, none⟩) 0 0).ownBlock) := Lib.hid (fun e => by simp only [Value.ownBlock, Option.some.injEq] at e; omega)
  have L2 : Hid (w2.heap.size < w2.heap.size + 1 + 1 ∧ w2.heap.size + 1 < w2.heap.size + 1 + 1) := Lib.hid ⟨by omega, by omega⟩
  have HA2 := Lib.hid (HA.out.below HB2.out)
  have HAF : Hid (AtF Non w2 aa (pairsV l)) := Lib.hid (AtF.of_new HA2.out fun _ _ _ _ h => h)
  have HNL := Lib.hid (pairsV_length l)
  obtain ⟨i0, hi0, hz0, hz1, hz2⟩ := info_parts info_atr
  have b0 : 0 + l.length ≤ maxLen := by unfold maxLen; omega
  have b1 : (0 + l.length) * 32 ≤ 140737488355328 := by omega
  clear hW2 c0' d0' d1' d2' d3' d4' d5' c0 d0 d1 d2 d3 d4 d5 HA
  go_region_held3 (fun u => u.cell? ⟨w.heap.size + 1, 1, none⟩ = some (.int .i64 T.nodes[i].space) ∧ u.cell? ⟨w.heap.size + 1, 2, none⟩ = some (.string T.nodes[i].name) ∧ u.cell? ⟨w.heap.size + 1, 3, none⟩ = some (.slice aa l.length ac))
      (first | with_reducible exact keepS6 KA.out hlX (Nat.le_refl _) x1 x2 x3 | with_reducible exact keepS6 KA.out hlX (Nat.le_succ _) x1 x2 x3 | with_reducible exact keepN K0.out hlX x1 x2 x3 | with_reducible exact keepN K1.out hlX x1 x2 x3 | with_reducible exact keepN K2.out hlX x1 x2 x3 | with_reducible exact keepN K3.out hlX x1 x2 x3 | with_reducible exact keepN K4.out hlX x1 x2 x3 | with_reducible exact keepN KA.out hlX x1 x2 x3 | with_reducible exact keepN (KA.out.alloc _) hlX x1 x2 x3)
      (first
        | (refine step_append_slice (by rfl) _ _ 29 (by rfl) w2.heap.size 81 i0 _ 2 32 Try.underlying29 hi0 hz0 hz1 hz2 rfl (by decide) _ 0 [] (by rfl) (by first | exact O1.out | exact O2.out | exact O3.out) aa l.length ac (pairsV l) (by rfl) HNL.out H3.out (by first | exact at_later HAF.out K1.out | exact at_later HAF.out K2.out | exact at_later HAF.out K3.out) (pairsV_one l) b0 b1 (by first | exact K1.out.size | exact K2.out.size | exact K3.out.size) ?_
           intro v4 w4 hown4 hgr4
           simp only [Nat.zero_add, List.nil_append] at hown4
           have KA : Hid (Keeps Non w2 w4) := Lib.hid (by first | exact keeps_grown K1.out hgr4 B1.out | exact keeps_grown K2.out hgr4 B1.out | exact keeps_grown K3.out hgr4 B3.out)
           first
             | (have ZA := Lib.hid ((hgr4.block (w2.heap.size + 1) (by simp) E2.out).trans Z2.out); obtain ⟨⟨z0, z1, z2, z3, z4, z5⟩, y0, y1, y2, y3, y4, y5⟩ := cells6 ZA.out)
             | (have ZA := Lib.hid ((hgr4.block w2.heap.size (by simp; omega) E3.out).trans Z3.out); obtain ⟨⟨z0, z1, z2, z3, z4, z5⟩, y0, y1, y2, y3, y4, y5⟩ := cells6 ZA.out)
             | skip
           obtain ⟨a2, c2, rfl, r1, r2, r3, _⟩ := own_at hown4
           have OA := Lib.hid hown4
           clear hown4 hgr4 r3))
  all_goals first
    | (have ht5 := put6_heap (O := w2.heap.size + 1) (.int .i64 1) (.int .i64 T.nodes[i].space) (.string T.nodes[i].name) (.slice a2 l.length c2) (.string ⟨#[]⟩) (.slice none 0 0) ZA.out
       have hne5 := own_type OA.out ZA.out (by decide)
       have ho5 := own_put6 (.int .i64 1) (.int .i64 T.nodes[i].space) (.string T.nodes[i].name) (.slice a2 l.length c2) (.string ⟨#[]⟩) (.slice none 0 0) OA.out hne5
       have hk5 := put6_keeps (.int .i64 1) (.int .i64 T.nodes[i].space) (.string T.nodes[i].name) (.slice a2 l.length c2) (.string ⟨#[]⟩) (.slice none 0 0) KA.out (.inr (Nat.le_succ _ : w2.heap.size ≤ w2.heap.size + 1))
       have hge5 : w2.heap.size ≤ w2.heap.size + 1 := Nat.le_succ _
       have hlt5 := row_lt ht5
       unfold put6 at ht5 ho5 hk5 hlt5
       generalize ((((((w4.setCell ⟨w2.heap.size + 1, 0, none⟩ (.int .i64 1)).setCell ⟨w2.heap.size + 1, 1, none⟩ (.int .i64 T.nodes[i].space)).setCell ⟨w2.heap.size + 1, 2, none⟩ (.string T.nodes[i].name)).setCell ⟨w2.heap.size + 1, 3, none⟩ (.slice a2 l.length c2)).setCell ⟨w2.heap.size + 1, 4, none⟩ (.string ⟨#[]⟩)).setCell ⟨w2.heap.size + 1, 5, none⟩ (.slice none 0 0)) = w5 at *
       clear ZA z0 z1 z2 z3 z4 z5 y0 y1 y2 y3 y4 y5
       generalize w2.heap.size + 1 = O at *)
    | (have ht5 := put6_heap (O := w2.heap.size) (.int .i64 1) (.int .i64 T.nodes[i].space) (.string T.nodes[i].name) (.slice a2 l.length c2) (.string ⟨#[]⟩) (.slice none 0 0) ZA.out
       have hne5 := own_type OA.out ZA.out (by decide)
       have ho5 := own_put6 (.int .i64 1) (.int .i64 T.nodes[i].space) (.string T.nodes[i].name) (.slice a2 l.length c2) (.string ⟨#[]⟩) (.slice none 0 0) OA.out hne5
       have hk5 := put6_keeps (.int .i64 1) (.int .i64 T.nodes[i].space) (.string T.nodes[i].name) (.slice a2 l.length c2) (.string ⟨#[]⟩) (.slice none 0 0) KA.out (.inr (Nat.le_refl _ : w2.heap.size ≤ w2.heap.size))
       have hlt5 := row_lt ht5
       unfold put6 at ht5 ho5 hk5 hlt5
       generalize ((((((w4.setCell ⟨w2.heap.size, 0, none⟩ (.int .i64 1)).setCell ⟨w2.heap.size, 1, none⟩ (.int .i64 T.nodes[i].space)).setCell ⟨w2.heap.size, 2, none⟩ (.string T.nodes[i].name)).setCell ⟨w2.heap.size, 3, none⟩ (.slice a2 l.length c2)).setCell ⟨w2.heap.size, 4, none⟩ (.string ⟨#[]⟩)).setCell ⟨w2.heap.size, 5, none⟩ (.slice none 0 0)) = w5 at *
       clear ZA z0 z1 z2 z3 z4 z5 y0 y1 y2 y3 y4 y5
       generalize hOe : w2.heap.size = O at ht5 hlt5 hne5 ⊢
       have hge5 : w2.heap.size ≤ O := by omega
       clear hOe)
    | (have ht5 := heap_alloc_new w4 (.cells #[.int .i64 1, .int .i64 T.nodes[i].space, .string T.nodes[i].name, .slice a2 l.length c2, .string ⟨#[]⟩, .slice none 0 0] 36)
       have hne5 : ∀ k, (Value.slice a2 l.length c2).ownBlock = some k → k ≠ w4.heap.size := fun k hk => Nat.ne_of_lt (OA.out.lt k hk).2
       have ho5 := OA.out.alloc (.cells #[.int .i64 1, .int .i64 T.nodes[i].space, .string T.nodes[i].name, .slice a2 l.length c2, .string ⟨#[]⟩, .slice none 0 0] 36)
       have hk5 := KA.out.alloc (.cells #[.int .i64 1, .int .i64 T.nodes[i].space, .string T.nodes[i].name, .slice a2 l.length c2, .string ⟨#[]⟩, .slice none 0 0] 36)
       have hge5 : w2.heap.size ≤ w4.heap.size := KA.out.size
       have hlt5 := row_lt ht5
       generalize w4.alloc (.cells #[.int .i64 1, .int .i64 T.nodes[i].space, .string T.nodes[i].name, .slice a2 l.length c2, .string ⟨#[]⟩, .slice none 0 0] 36) = w5 at *
       generalize w4.heap.size = O at *)
  all_goals
    clear K0 K1 K2 K3 K4 KA O1 O2 O3 Z2 Z3 B1 B3 E2 E3 L2 HA2 HAF HNL i0 hi0 hz0 hz1 hz2 b0 b1 OA
    obtain ⟨_, _, he2, s1, s2, s3, s4⟩ := attr_at ho5 hne5
    obtain ⟨rfl, rfl⟩ : _ ∧ _ := by simpa only [Value.slice.injEq, true_and] using he2
    have KB := Lib.hid hk5
    have HO5 := Lib.hid ht5
    have HA5 := Lib.hid s4
    have HB5 := Lib.hid (belowCall HB2.out (non_below hk5))
    have HR5 := Lib.hid ((hk5.block w.heap.size (by omega) (fun h => h)).trans HR.out)
    have S3 := Lib.hid s3.nil
    have hOw : w.heap.size + 1 < O := by omega
    clear hk5 ht5 ho5 hne5 s3 s4 x1 x2 x3 HR HXX HB2 he2
    go_wp2_with fail
    have HRD0 : Hid (RD w5 O (.int .i64 1) (.int .i64 T.nodes[i].space) (.string T.nodes[i].name) (.slice a2 l.length c2) (.string ⟨#[]⟩) d T kl 0 none 0 [] w5) := Lib.hid ⟨HO5.out, World.ownsRow_nil _ _ _ _, rfl, fun j h => by simp at h, Keeps.refl _ _⟩
    go_loopw [7] (fun i' wr => ∃ k : Nat, k ≤ kl.length ∧ i' = .int .i64 k ∧ ∃ av cv css, RD w5 O (.int .i64 1) (.int .i64 T.nodes[i].space) (.string T.nodes[i].name) (.slice a2 l.length c2) (.string ⟨#[]⟩) d T kl k av cv css wr) (fun i' _ => kl.length - (intOf i').toNat)
    case atStart => exact ⟨0, Nat.zero_le _, rfl, none, 0, [], HRD0.out⟩
    case round =>
      obtain ⟨k, hk, rfl, av, cv, css, hrd⟩ := hrel
      have HRD := Lib.hid hrd
      have HBr := Lib.hid (HB5.out.trans (hrd.keep.below (B := w.heap.size) (fun b hb e => by omega) HB5.out.size))
      have cc1 := cell_later HBr.out C1.out
      have cdk := cell_later HBr.out DK.out
      by_cases hlt2 : k < kl.length
      · obtain ⟨b', o', rfl, e1⟩ := at_later HKL.out (Keeps.ofBelow HBr.out) _ _ (intsV_get kl k hlt2)
        obtain ⟨x, hx, hx1, hx2, hx3⟩ := HKD.out k hlt2
        rw [hx] at e1
        have hbd := (Below.refl wr.heap.size wr).drew
        have hrdd := hrd.below hbd
        have HI := Lib.hid (HIH.out wr.drew x hx1 hx2 hx3 ((HT.out.below HBr.out).below hbd))
        have HX := Lib.hid hx
        have HRDd := Lib.hid hrdd
        have d1' : wr.drew.cell? ⟨rb, 1, none⟩ = _ := cc1
        have d2' : wr.drew.cell? ⟨gk, i, none⟩ = _ := cdk
        have d3' : wr.drew.cell? ⟨b', o' + k, none⟩ = _ := e1
        have d5' : wr.drew.cell? ⟨O, 5, none⟩ = some (.slice av k cv) := by rw [cell_of_row _ _ _ _ _ _ hrdd.cell]; rfl
        obtain ⟨i1, hi1, hy0, hy1, hy2⟩ := info_parts info_out
        have g0 : k + 1 ≤ maxLen := by unfold maxLen; omega
        have g1 : (k + 1) * 96 ≤ 140737488355328 := by omega
        clear hrd hrdd hx hx3 hbd HRD
        go_wp2_with fail
        go_region_law (first
          | (go_simp
             go_at_call 24
             refine HI.out.mono ?_
             rintro e w6 ⟨cs, rfl, hcs, hb6⟩
             obtain ⟨f0, f1, f2, f3, f4, f5, f6, f7, f8, f9, rfl⟩ := nodeC_form hcs
             have hRD6 := HRDd.out.below hb6
             have hcs6 := (hcs.other (G := fun b => b < w5.heap.size ∨ (Value.slice av k cv).ownBlock = some b) (fun b _ hF => by
               have h5 := HRDd.out.keep.size
               rcases hF with hF | hF
               · show b < wr.drew.heap.size
                 omega
               · exact (HRDd.out.own.lt b hF).2))
             have hb7 := ((Below.refl w6.heap.size w6).alloc (Nat.le_refl _) (.cells #[.int .i64 f0, .int .i64 f1, .string f2, .slice f3 f4 f5, .string f6, .slice f7 f8 f9] 36))
             have q5 : w6.cell? ⟨O, 5, none⟩ = some (.slice av k cv) := by rw [cell_of_row _ _ _ _ _ _ hRD6.cell]; rfl
             have q6 : (w6.alloc (.cells #[.int .i64 f0, .int .i64 f1, .string f2, .slice f3 f4 f5, .string f6, .slice f7 f8 f9] 36)).cell? ⟨O, 5, none⟩ = some (.slice av k cv) := cell_later hb7 q5
             have HRD8 := Lib.hid (hRD6.below hb7)
             have HCS8 : Hid (NodeC (fun b => b < w5.heap.size ∨ (Value.slice av k cv).ownBlock = some b) (w6.alloc (.cells #[.int .i64 f0, .int .i64 f1, .string f2, .slice f3 f4 f5, .string f6, .slice f7 f8 f9] 36)) (nodeV f0 f1 f2 f3 f4 f5 f6 f7 f8 f9) (readN d T kl[k])) := Lib.hid (by
               rw [HX.out]
               exact hcs6.kept (Keeps.ofBelow hb7))
             have HBS := Lib.hid HRD8.out.keep.size
             clear hRD6 hcs hcs6 hb6 hb7
             unfold nodeV at HCS8 ⊢)
          | (refine step_append_lies _ (by rfl) _ _ _ (by rfl) w5.heap.size 36 i1 _ 6 96 Try.underlying34 hi1 hy0 hy1 hy2 rfl (by decide) (.slice av k cv) k css.flatten (by rfl) HRD8.out.own ⟨w6.heap.size, 0, none⟩ 1 1 [.int .i64 f0, .int .i64 f1, .string f2, .slice f3 f4 f5, .string f6, .slice f7 f8 f9] (by rfl) (by rfl) (World.news_of_block (cs := #[.int .i64 f0, .int .i64 f1, .string f2, .slice f3 f4 f5, .string f6, .slice f7 f8 f9]) (t := 36) (fr := (0, 0)) (heap_alloc_new w6 _)) (by simp [Value.oneCell']) (by omega) g0 g1 HBS.out (w6.heap.size + 1) (by simp) ?_
             intro gg capg w8 hown8 hgr8 hat8 hlt8
             have HRD9 := Lib.hid (HRD8.out.push hlt5 hlt2 HCS8.out hgr8 (hat8.imp id (fun e => e.trans (by simp))) hown8)
             have hO8 := (hgr8.block O (row_lt HRD8.out.cell) (fun e => by have := own_base HRD8.out.own O e.symm; omega)).trans HRD8.out.cell
             have s5 := cell_of_row w8 O 5 _ _ _ hO8
             have y5 := frozen_of_row w8 O 5 _ _ hO8
             clear hO8 hown8 hgr8 hat8))
        all_goals
          go_wp2_with fail
          go_roundw
          case rel => exact ⟨k + 1, by omega, by go_num, _, _, _, HRD9.out⟩
          case measure => simp [intOf]; omega
      · obtain rfl : k = kl.length := by omega
        have hcell := hrd.cell
        obtain ⟨⟨z0, z1, z2, z3, z4, z5⟩, _⟩ := cells6 hcell
        have hRr := (hrd.keep.block w.heap.size (by omega) (by omega)).trans HR5.out
        obtain ⟨⟨t0, t1, t2, t3, t4, t5⟩, y0, y1, y2, y3, y4, y5⟩ := cells6 hRr
        have HE := Lib.hid (fun u0 u1 u2 u3 u4 u5 => read_end (R := w.heap.size) (B := w.heap.size) hrd hlt5 (by omega) (by omega) (by omega) (by omega) s1 s2 S3.out HA5.out u0 u1 u2 u3 u4 u5)
        have HG := Lib.hid (fun u0 u1 u2 u3 u4 u5 => put6_heap u0 u1 u2 u3 u4 u5 hRr)
        have HK := Lib.hid (fun u0 u1 u2 u3 u4 u5 => put6_keeps (O := w.heap.size) u0 u1 u2 u3 u4 u5 (Keeps.refl (fun b => b = w.heap.size) wr) (.inl rfl))
        clear hrd hcell hRr
        go_wp2_with fail
        refine bodyPost_ret (results_cell_row rfl _ _ w.heap.size _ _ _ _ (by rfl) (HG.out _ _ _ _ _ _) Try.underlying36 rfl size_out) rfl ?_
        refine ⟨_, rfl, HE.out _ _ _ _ _ _, HBr.out.trans ((HK.out _ _ _ _ _ _).below (fun b hb e => by omega) HBr.out.size)⟩
end Go.Proofs.Ytidbihdnginmcaa

/-
  Contract: (*colanderref14.Tree).Read, the whole.
-/
namespace Go.Proofs.Ytidbihdnginmcaa
open Go.RowKit Mem

theorem rread_deep : ∀ (d : Nat) (T : TreeD) (rb gn gk : Nat) (w : World) (i : Nat), WF T → T.nodes.length ≤ 1000000 → (∀ d ∈ T.nodes, d.attrs.length ≤ 1048576) → 1 ≤ i → i < T.nodes.length → Deep d T i → RefO w rb gn gk T →
    Calls Try.prog 24 #[.pointer (some ⟨rb, 0, none⟩), .int .i64 i] w fun e w' => ∃ cs, e = .returned (.agg cs.toArray) ∧ NodeC (· < w.heap.size) w' cs (readN d T i) ∧ Below w.heap.size w w'
  | 0, _, _, _, _, _, _, _, _, _, _, _, h, _ => h.elim
  | d + 1, T, rb, gn, gk, w, i, hw, hl, ha, h1, hi, hd, h => by
    cases he : T.nodes[i].elem
    · rw [readN_text d T i hi he]
      exact rread_text T rb gn gk w i hi he h
    · rw [readN_elem d T i hi he]
      have hk := kidsF_of T i hi
      rw [← hk]
      refine rread_elem T rb gn gk w i hi he h _ rfl (ha _ (List.getElem_mem hi)) d _ rfl ?_ ?_ ?_
      · have := kids_short hw i hi
        omega
      · intro j hj
        have hm : (kidsF T i)[j] ∈ kidsF T i := List.getElem_mem hj
        obtain ⟨p1, p2, _⟩ := hw.kid i hi _ hm
        obtain ⟨x, hx⟩ := Int.eq_ofNat_of_zero_le (by omega : 0 ≤ (kidsF T i)[j])
        refine ⟨x, hx, by omega, by omega, ?_⟩
        rw [← hx]
        exact hd _ hm
      · intro u x hx1 hx2 hx3 hT
        exact rread_deep d T rb gn gk u x hw hl ha hx1 hx2 hx3 hT
end Go.Proofs.Ytidbihdnginmcaa
