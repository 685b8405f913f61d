/-
  Contracts: (*open.Tree).make, Elem: a node is added, or refused.
-/
import Derived.Test.YtidbihdnginmcaaOpenD
namespace Go.Proofs.Ytidbihdnginmcaa
open Go.RowKit Mem

def mkF (T : TreeD) (d : ND) : TreeD × Int × Int := if (T.nodes.length : Int) - 1 < T.most then (addF T d, (T.nodes.length : Int), 0) else (T, 0, 43)

theorem make_no (T : TreeD) (tb g : Nat) (w : World) (el : Bool) (sp p0 : Int) (nm tx : ByteArray) (n : Nat) (a : Option Addr) (c : Nat)
    (h : TreeO w tb g T) (hm : T.most ≤ (T.nodes.length : Int) - 1) :
    Calls Try.prog 62 #[.pointer (some ⟨tb, 0, none⟩), .agg #[.bool el, .int .i64 sp, .string nm, .slice a n c, .string tx, .int .i64 p0, .slice none 0 0]] w fun e w' =>
      Keeps (Two tb g) w w' ∧ e = .returned (.tuple #[.int .i64 0, .int .i64 43]) ∧ TreeO w' tb g T := by
  obtain ⟨cap, h1, h2, c0, c1, _, _⟩ := h.head
  unfold maxLen at h2
  have HT := Lib.hid h
  have hm' : ¬ ((T.nodes.length : Int) - 1 < T.most) := by omega
  clear h
  go_enter Try.func62, Try.ntmps62
  go_wp2_with fail
  have hb1 := (Below.refl w.heap.size w).alloc (Nat.le_refl _) (.cells #[.bool el, .int .i64 sp, .string nm, .slice a n c, .string tx, .int .i64 p0, .slice none 0 0] 88)
  generalize w.alloc (.cells #[.bool el, .int .i64 sp, .string nm, .slice a n c, .string tx, .int .i64 p0, .slice none 0 0] 88) = w1 at *
  have d1 := cell_later hb1 c1
  have HT1 := Lib.hid (HT.out.below hb1)
  have HB1 := Lib.hid hb1
  clear hb1
  refine wp_region_calm (by kernel_rfl) (by kernel_rfl) ?_
  repeat
    with_reducible refine wpQuiet_step (fun K hK => ?_)
    first
      | (with_reducible apply calm_skip
         · rfl
         simp only [Act.put, List.setIfInBounds_toArray, List.set_cons_zero, List.set_cons_succ]
         refine hK _ ?_
         clear hK K)
      | (with_reducible apply calm_run
         · rfl
         · intro wq hC
           have zd1 := cell_later hC.out d1
           unfold Oper.quietAt
           go_simp
           first | done | (go_at_call 20; go_must (refine (len_any T tb g _ (HT1.out.below hC.out)).mono ?_; rintro e wx ⟨rfl, rfl⟩; exact ⟨rfl, hC⟩)) | with_reducible rfl | rfl
         simp only [Act.put, List.setIfInBounds_toArray, List.set_cons_zero, List.set_cons_succ]
         refine hK _ ?_
         clear hK K)
  with_reducible refine wpQuiet_nil ?_
  intro wq HQ
  have zd1 := cell_later HQ.out d1
  have HT2 := Lib.hid (HT1.out.below HQ.out)
  have HB := Lib.hid (belowCall HB1.out HQ.out)
  go_wp2_with fail
  go_ret2
  exact ⟨Keeps.ofBelow HB.out, rfl, HT2.out⟩

theorem make_any (T : TreeD) (tb g : Nat) (w : World) (el : Bool) (sp p0 : Int) (nm tx : ByteArray) (l : List Pair) (n : Nat) (a : Option Addr) (c : Nat) (hnl : n = l.length) (hc : a = none → c = 0) (hlen : l.length ≤ 1048576) (hn : T.nodes.length ≤ 1048576)
    (h : TreeO w tb g T) (ha : At w a (pairsV l)) :
    Calls Try.prog 62 #[.pointer (some ⟨tb, 0, none⟩), .agg #[.bool el, .int .i64 sp, .string nm, .slice a n c, .string tx, .int .i64 p0, .slice none 0 0]] w fun e w' =>
      ∃ g', Keeps (Two tb g) w w' ∧ (g' = g ∨ w.heap.size ≤ g') ∧ e = .returned (.tuple #[.int .i64 (mkF T ⟨el, sp, nm, l, tx, -1, []⟩).2.1, .int .i64 (mkF T ⟨el, sp, nm, l, tx, -1, []⟩).2.2]) ∧ TreeO w' tb g' (mkF T ⟨el, sp, nm, l, tx, -1, []⟩).1 := by
  subst hnl
  by_cases hm : (T.nodes.length : Int) - 1 < T.most
  · have he : mkF T ⟨el, sp, nm, l, tx, -1, []⟩ = (addF T ⟨el, sp, nm, l, tx, -1, []⟩, (T.nodes.length : Int), 0) := by rw [mkF, if_pos hm]
    rw [he]
    exact make_yes T tb g w el sp p0 nm tx l a c hc hlen hn h ha hm
  · have he : mkF T ⟨el, sp, nm, l, tx, -1, []⟩ = (T, 0, 43) := by rw [mkF, if_neg hm]
    rw [he]
    exact (make_no T tb g w el sp p0 nm tx l.length a c h (by omega)).mono fun e w' ⟨h1, h2, h3⟩ => ⟨g, h1, .inl rfl, h2, h3⟩

set_option maxRecDepth 100000 in
theorem Elem_any (T : TreeD) (tb g : Nat) (w : World) (sp : Int) (nm : ByteArray) (l : List Pair) (n : Nat) (a : Option Addr) (c : Nat) (hnl : n = l.length) (hc : a = none → c = 0) (hlen : l.length ≤ 1048576) (hn : T.nodes.length ≤ 1048576)
    (h : TreeO w tb g T) (ha : At w a (pairsV l)) :
    Calls Try.prog 26 #[.pointer (some ⟨tb, 0, none⟩), .int .i64 sp, .string nm, .slice a n c] w fun e w' =>
      ∃ g', Keeps (Two tb g) w w' ∧ (g' = g ∨ w.heap.size ≤ g') ∧ e = .returned (.tuple #[.int .i64 (mkF T (elemN sp nm l)).2.1, .int .i64 (mkF T (elemN sp nm l)).2.2]) ∧ TreeO w' tb g' (mkF T (elemN sp nm l)).1 := by
  subst hnl
  have HC := Lib.hid (make_any T tb g w true sp 0 nm ⟨#[]⟩ l _ a c rfl hc hlen hn h ha)
  clear h ha hc
  unfold elemN
  go_enter Try.func26, Try.ntmps26
  go_wp2_with (go_at_call 62; go_must (refine HC.out.mono ?_; rintro e w1 ⟨g', hK, hg, rfl, hT⟩))
  go_ret2
  exact ⟨g', hK, hg, rfl, hT⟩
end Go.Proofs.Ytidbihdnginmcaa
