/-
  Contract: (*open.Tree).What: what an element is, its attributes in new memory.
-/
import Derived.Test.YtidbihdnginmcaaOpenE
import Derived.Test.YtidbihdnginmcaaMemD
import Derived.Deep.RegionHeld3
namespace Go.Proofs.Ytidbihdnginmcaa
open Go.RowKit Mem

def spaceQ (T : TreeD) (n : Int) : Int := if elemF T n then ((T.nodes[n.toNat]?).map (·.space)).getD 0 else 0
def nameQ (T : TreeD) (n : Int) : ByteArray := if elemF T n then ((T.nodes[n.toNat]?).map (·.name)).getD ⟨#[]⟩ else ⟨#[]⟩
def attrsQ (T : TreeD) (n : Int) : List Pair := if elemF T n then ((T.nodes[n.toNat]?).map (·.attrs)).getD [] else []
theorem what_of {T : TreeD} {i : Nat} (h : i < T.nodes.length) (he : elemF T i = true) : spaceQ T i = T.nodes[i].space ∧ nameQ T i = T.nodes[i].name ∧ attrsQ T i = T.nodes[i].attrs := by
  simp [spaceQ, nameQ, attrsQ, he, h]
theorem what_no {T : TreeD} {n : Int} (he : elemF T n = false) : spaceQ T n = 0 ∧ nameQ T n = ⟨#[]⟩ ∧ attrsQ T n = [] := by
  simp [spaceQ, nameQ, attrsQ, he]

theorem keepW3 {u u' : World} {B : Nat} {v1 v2 v3 : Value} (hb : u'.heap[B]? = u.heap[B]?) (h : u.cell? ⟨B, 1, none⟩ = some v1 ∧ u.cell? ⟨B, 2, none⟩ = some v2 ∧ u.cell? ⟨B, 3, none⟩ = some v3) :
    u'.cell? ⟨B, 1, none⟩ = some v1 ∧ u'.cell? ⟨B, 2, none⟩ = some v2 ∧ u'.cell? ⟨B, 3, none⟩ = some v3 := by
  rw [World.cell?_of_block (a := ⟨B, 1, none⟩) hb, World.cell?_of_block (a := ⟨B, 2, none⟩) hb, World.cell?_of_block (a := ⟨B, 3, none⟩) hb]
  exact h

set_option maxRecDepth 100000 in
set_option maxHeartbeats 4000000 in
theorem What_any (T : TreeD) (tb g : Nat) (w : World) (n : Int) (hat : ∀ i (h : i < T.nodes.length), T.nodes[i].attrs.length ≤ 1048576) (h : TreeO w tb g T) :
    Calls Try.prog 43 #[.pointer (some ⟨tb, 0, none⟩), .int .i64 n] w fun e w' => ∃ v, e = .returned (.tuple #[.int .i64 (spaceQ T n), .string (nameQ T n), v]) ∧
      w'.ownsRow w.heap.size 81 2 v (attrsQ T n).length (pairsV (attrsQ T n)) ∧ Below w.heap.size w w' := by
  have HC := Lib.hid (elem_any T tb g w n h)
  cases he : elemF T n
  · obtain ⟨p1, p2, p3⟩ := what_no he
    have HP := Lib.hid (And.intro p1 (And.intro p2 p3))
    rw [he] at HC
    clear h p1 p2 p3
    go_enter Try.func43, Try.ntmps43
    go_wp2_with (go_at_call 91; go_must (refine HC.out.mono ?_; rintro e w1 ⟨rfl, rfl⟩))
    go_ret3
    refine ⟨_, by rw [HP.out.1, HP.out.2.1]; rfl, ?_, Below.refl _ _⟩
    rw [HP.out.2.2]
    exact World.ownsRow_nil _ _ _ _
  · have hi := isF_lt (T := T) (a := n) (by unfold elemF at he; exact (Bool.and_eq_true_iff.1 he).1)
    obtain ⟨i, rfl⟩ := Int.eq_ofNat_of_zero_le (by omega : 0 ≤ n)
    have hlt : i < T.nodes.length := by omega
    obtain ⟨p1, p2, p3⟩ := what_of hlt he
    have HP := Lib.hid (And.intro p1 (And.intro p2 p3))
    obtain ⟨cap, h1, h2, c0, _, _, _⟩ := h.head
    obtain ⟨aa, ac, ka, kc, _, _, hA3, _, _, _, hA, _, hc, _⟩ := h.node hlt
    have d0 := hc 0 _ rfl
    rw [Nat.add_zero] at d0
    have d1 := hc 1 _ rfl
    have d2 := hc 2 _ rfl
    have d3 := hc 3 _ rfl
    have d4 := hc 4 _ rfl
    have d5 := hc 5 _ rfl
    have d6 := hc 6 _ rfl
    have hlen := hat i hlt
    obtain ⟨l, hl⟩ : ∃ l, l = T.nodes[i].attrs := ⟨_, rfl⟩
    rw [← hl] at d3 hA hlen p3
    have HPL := Lib.hid p3
    have HA := Lib.hid hA.at
    have H3 := Lib.hid hA3
    unfold maxLen at h2
    rw [he] at HC
    clear h hc hA hA3 hl hat p1 p2 p3 he
    go_enter Try.func43, Try.ntmps43
    go_wp2_with (go_at_call 91; go_must (refine HC.out.mono ?_; rintro e w1 ⟨rfl, rfl⟩))
    have hB := heap_alloc_new w (.cells #[.bool T.nodes[i].elem, .int .i64 T.nodes[i].space, .string T.nodes[i].name, .slice aa l.length ac, .string T.nodes[i].text, .int .i64 T.nodes[i].parent, .slice ka T.nodes[i].kids.length kc] 88)
    have hb1 := (Below.refl w.heap.size w).alloc (Nat.le_refl _) (.cells #[.bool T.nodes[i].elem, .int .i64 T.nodes[i].space, .string T.nodes[i].name, .slice aa l.length ac, .string T.nodes[i].text, .int .i64 T.nodes[i].parent, .slice ka T.nodes[i].kids.length kc] 88)
    have hl1 : w.heap.size < (w.alloc (.cells #[.bool T.nodes[i].elem, .int .i64 T.nodes[i].space, .string T.nodes[i].name, .slice aa l.length ac, .string T.nodes[i].text, .int .i64 T.nodes[i].parent, .slice ka T.nodes[i].kids.length kc] 88)).heap.size := by simp
    generalize w.alloc (.cells #[.bool T.nodes[i].elem, .int .i64 T.nodes[i].space, .string T.nodes[i].name, .slice aa l.length ac, .string T.nodes[i].text, .int .i64 T.nodes[i].parent, .slice ka T.nodes[i].kids.length kc] 88) = w1 at *
    obtain ⟨_, q1, q2, q3, _, _, _⟩ := cells_of hB
    have HA1 := Lib.hid (HA.out.below hb1)
    have HB1 := Lib.hid hb1
    have HE : Hid ((w1.drew.alloc (.cells #[] 81)).ownsRow w.heap.size 81 2 (.slice (some ⟨w1.heap.size, 0, none⟩) 0 0) 0 []) := Lib.hid (World.ownsRow_lit w1.drew #[] 0 hb1.size (Nat.zero_le _) rfl)
    have HA2 := Lib.hid (HA1.out.below ((Below.refl _ w1).drew.alloc (Nat.le_refl _) (.cells #[] 81)))
    obtain ⟨i0, hi0, hz0, hz1, hz2⟩ := info_parts info_atr
    have b0 : 0 + l.length ≤ maxLen := by unfold maxLen; omega
    have b1 : (0 + l.length) * 32 ≤ 140737488355328 := by omega
    have HNL := Lib.hid (pairsV_length l)
    have hs2 : w.heap.size ≤ (w1.drew.alloc (.cells #[] 81)).heap.size := by simp; omega
    have hl2 : w.heap.size < (w1.drew.alloc (.cells #[] 81)).heap.size := by simp; omega
    have HNE : Hid (some w.heap.size ≠ (Value.slice (some ⟨w1.heap.size, 0, none⟩) 0 0).ownBlock) := Lib.hid (fun e => by simp only [Value.ownBlock, Option.some.injEq] at e; omega)
    have HNB : Hid (∀ k, (Value.slice (some ⟨w1.heap.size, 0, none⟩) 0 0).ownBlock = some k → w.heap.size ≤ k) := Lib.hid (fun k e => by simp only [Value.ownBlock, Option.some.injEq] at e; omega)
    clear hB hb1 c0 d0 d1 d2 d3 d4 d5 d6 HC HA
    go_region_held3 (fun u => u.cell? ⟨w.heap.size, 1, none⟩ = some (.int .i64 T.nodes[i].space) ∧ u.cell? ⟨w.heap.size, 2, none⟩ = some (.string T.nodes[i].name) ∧ u.cell? ⟨w.heap.size, 3, none⟩ = some (.slice aa l.length ac))
      (first | exact keepW3 (u := w1) rfl ⟨q1, q2, q3⟩ | exact keepW3 (u := w1) (Below.heap_alloc w1.drew _ _ hl1) ⟨q1, q2, q3⟩ | exact keepW3 (hgr2.block _ hl2 HNE.out) (by assumption))
      (first | (go_must (refine step_append_slice (by rfl) _ _ 29 (by rfl) w.heap.size 81 i0 _ 2 32 Try.underlying29 hi0 hz0 hz1 hz2 rfl (by decide) _ 0 [] (by rfl) HE.out aa l.length ac (pairsV l) (by rfl) HNL.out H3.out HA2.out (pairsV_one l) b0 b1 hs2 ?_; intro v2 w4 hown2 hgr2; simp only [Nat.zero_add, List.nil_append] at hown2)))
    have HO2 := Lib.hid hown2
    have HG2 := Lib.hid hgr2
    clear hown2 hgr2
    go_wp2_with fail
    go_ret3
    refine ⟨v2, by rw [HP.out.1, HP.out.2.1]; rfl, ?_, ?_⟩
    · rw [HPL.out]; exact HO2.out
    · exact ((HB1.out.drew).alloc HB1.out.size _).grown HG2.out hs2 HNB.out
end Go.Proofs.Ytidbihdnginmcaa
