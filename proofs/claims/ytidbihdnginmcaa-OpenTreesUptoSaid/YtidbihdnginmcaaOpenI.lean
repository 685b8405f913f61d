/-
  Contract: (*open.Tree).Take: a node is taken out of where it is.
-/
import Derived.Test.YtidbihdnginmcaaOpenH
namespace Go.Proofs.Ytidbihdnginmcaa
open Go.RowKit Mem

def takeE (T : TreeD) (n : Int) : TreeD × Int := if isF T n then (takeF T n, 0) else (T, 47)

theorem node5 {w : World} {tb g : Nat} {T : TreeD} (h : TreeO w tb g T) {n : Nat} (hn : n < T.nodes.length) : w.cell? ⟨g, n * 7 + 5, none⟩ = some (.int .i64 (parentF T n)) := by
  rw [parentF_of T n hn]
  exact (tree_cells h hn).2.1

set_option maxRecDepth 100000 in
set_option maxHeartbeats 4000000 in
theorem take_kid (T : TreeD) (tb g : Nat) (w : World) (n a k : Nat) (hn1 : 1 ≤ n) (hn : n < T.nodes.length) (ha : a < T.nodes.length) (hp : parentF T n = a) (l : List Int) (hl : l = T.nodes[a].kids) (hk : k < l.length) (hkl : l.length ≤ 2097152)
    (hpl : placeF T a n = k) (hE : l.take k ++ l.drop (k + 1) = l.filter (· != (n : Int))) (h : TreeO w tb g T)
    (aa : Option Addr) (ac kb kc : Nat) (hk1 : l.length ≤ kc) (hk2 : kc ≤ maxLen) (hkat : AtF (Dat T.far tb g) w (some ⟨kb, 0, none⟩) (intsV l))
    (hc : ∀ f v, (cells7 T.nodes[a] aa ac (some ⟨kb, 0, none⟩) kc)[f]? = some v → w.cell? ⟨g, a * 7 + f, none⟩ = some v) (hf : ∀ j, w.frozen? ⟨g, j, none⟩ = false) :
    Calls Try.prog 18 #[.pointer (some ⟨tb, 0, none⟩), .int .i64 n] w fun e w' => e = .returned (.int .i64 0) ∧ TreeO w' tb g (takeF T n) ∧ Keeps (Two tb g) w w' := by
  obtain ⟨cap, h1, h2, c0, _, _, _⟩ := h.head
  obtain ⟨_, Cs, hne, _⟩ := h.open_
  obtain ⟨ht1, ht2⟩ := h.lt
  have HI := Lib.hid (is_any T tb g w n h)
  have his : isF T n = true := by simp [isF]; omega
  rw [his] at HI
  have HP := Lib.hid (place_any T tb g w a n ha h)
  rw [hpl] at HP
  have d5 := node5 h hn
  rw [hp] at d5
  have d6 := hc 6 _ rfl
  rw [← hl] at d6
  have HF : Hid (modN (modN T a (setKids (l.filter (· != (n : Int))))) n (setParent (-1)) = takeF T n) := Lib.hid (by rw [takeF, kidsOff, hp, if_pos (by omega), kidsF_of T a ha, ← hl])
  have HEE := Lib.hid hE
  have HT := Lib.hid h
  have HKA := Lib.hid (hkat.other (G := Non) (fun b _ hb => hb.elim))
  have f6 := hf (a * 7 + 6)
  unfold maxLen at h2 hk2
  have hi' : (k : Int) ≤ (l.length : Int) := by omega
  have hi'' : (k : Int) ≤ (kc : Int) := by omega
  have hw1 : IntKind.i64.wrap ((k : Int) + 1) = (k : Int) + 1 := by rw [IntKind.wrap_i64]; omega
  have hi3 : (k : Int) + 1 ≤ (l.length : Int) := by omega
  have hi4 : (k : Int) + 1 ≤ (kc : Int) := by omega
  have hi5 : (0 : Int) ≤ (k : Int) + 1 := by omega
  obtain ⟨i0, hi0, hz0, hz1, hz2⟩ := info_parts info_int
  clear h hc hf hkat hl hE hpl his
  go_enter Try.func18, Try.ntmps18
  go_wp2_with (first | (go_at_call 56; go_must (refine HI.out.mono ?_; rintro e w1 ⟨rfl, rfl⟩)) | (go_at_call 59; go_must (refine HP.out.mono ?_; rintro e w1 ⟨rfl, rfl⟩)))
  have K1 := Lib.hid ((Keeps.refl Non w).alloc (.cells #[] 3)).drew
  have O1 : Hid ((w.alloc (.cells #[] 3)).drew.ownsRow w.heap.size 3 1 (.slice (some ⟨w.heap.size, 0, none⟩) 0 0) 0 []) := Lib.hid (World.ownsRow_lit w #[] 0 (Nat.le_refl _) (Nat.zero_le _) rfl).drew
  have b0 : 0 + k ≤ maxLen := by unfold maxLen; omega
  have b1 : (0 + k) * 8 ≤ 140737488355328 := by omega
  have b4 : k + (l.length - (k + 1)) ≤ maxLen := by unfold maxLen; omega
  have b5 : (k + (l.length - (k + 1))) * 8 ≤ 140737488355328 := by omega
  have L1 : Hid ((intsV (l.take k)).length = k * 1) := Lib.hid (by rw [intsV_length, List.length_take]; omega)
  have L2 : Hid ((intsV (l.drop (k + 1))).length = (l.length - (k + 1)) * 1) := Lib.hid (by rw [intsV_length, List.length_drop]; omega)
  have B1 : Hid (∀ j, (Value.slice (some ⟨w.heap.size, 0, none⟩) 0 0).ownBlock = some j → w.heap.size ≤ j) := Lib.hid (fun j e => by simp only [Value.ownBlock, Option.some.injEq] at e; omega)
  have HLL : Hid (intsV (l.take k) ++ intsV (l.drop (k + 1)) = intsV (l.filter (· != (n : Int)))) := Lib.hid (by rw [← intsV_append, HEE.out])
  go_region_held3 (fun u => u.cell? ⟨tb, 0, none⟩ = some (.slice (some ⟨g, 0, none⟩) T.nodes.length cap))
    (first | exact c0 | exact non_cell K1.out c0 | exact non_cell K26.out c0 | exact non_cell K33.out c0 | exact non_set K33.out c0 hne)
    (first
      | (refine step_append_slice (by rfl) (.tmp 39) (.tmp 42) _ (by rfl) w.heap.size 3 i0 _ 1 8 Try.underlying32 hi0 hz0 hz1 hz2 rfl (by decide) _ 0 [] (by rfl) O1.out (some ⟨kb, 0, none⟩) k kc (intsV (l.take k)) (by rfl) L1.out (fun e => by cases e) (at_take (at_later HKA.out K1.out) k) (intsV_one _) b0 b1 K1.out.size ?_
         intro v26 w26 hown26 hgr26
         simp only [Nat.zero_add, List.nil_append] at hown26
         have K26 : Hid (Keeps Non w w26) := Lib.hid (keeps_grown K1.out hgr26 B1.out)
         obtain ⟨a26, c26, rfl, _, _, _, _⟩ := own_at hown26
         have O26 := Lib.hid hown26
         clear hown26 hgr26)
      | (refine step_append_slice (by rfl) (.tmp 43) (.tmp 47) _ (by rfl) w.heap.size 3 i0 _ 1 8 Try.underlying32 hi0 hz0 hz1 hz2 rfl (by decide) _ k _ (by rfl) O26.out (if kc = k + 1 then some ⟨kb, 0, none⟩ else some ⟨kb, k + 1, none⟩) (l.length - (k + 1)) (kc - (k + 1)) (intsV (l.drop (k + 1))) (by rfl) L2.out if_some (at_if (at_later HKA.out K26.out) (k + 1) kc hk1) (intsV_one _) b4 b5 K26.out.size ?_
         intro v33 w33 hown33 hgr33
         have K33 : Hid (Keeps Non w w33) := Lib.hid (keeps_grown K26.out hgr33 (own_base O26.out))
         have c33 := non_cell K33.out d6
         have f33 := (non_frozen (p := ⟨g, a * 7 + 6, none⟩) K33.out ht2).trans f6
         obtain ⟨a33, c33', rfl, _, _, _, _⟩ := own_at hown33
         have O33 := Lib.hid hown33
         clear hown33 hgr33))
  all_goals
    have hT34 := tree_kids (HT.out.below (non_below K33.out)) ha (by rw [← HLL.out]; exact O33.out) ht1 ht2 (fun k hk => (HT.out.far_lt k hk).1)
    obtain ⟨⟨cap4, k1, k2, e0⟩, e5, e5'⟩ := tree_cells hT34 (n := n) (by rw [modN_len]; exact hn)
    have hT35 := tree_parent hT34 (n := n) (by rw [modN_len]; exact hn) (-1)
    have hK34 := ((non_any (F := Two tb g) K33.out).set (p := ⟨g, a * 7 + 6, none⟩) (.inl (.inr rfl)) (.slice a33 (k + (l.length - (k + 1))) c33')).set (p := ⟨g, n * 7 + 5, none⟩) (.inl (.inr rfl)) (.int .i64 (-1))
    rw [modN_len] at k1 e0
    have HT35 := Lib.hid hT35
    have HK34 := Lib.hid hK34
    unfold maxLen at k2
    clear hT34 hT35 hK34
    go_wp2_with fail
    all_goals
      go_ret
      exact ⟨rfl, HF.out ▸ HT35.out, HK34.out⟩
end Go.Proofs.Ytidbihdnginmcaa
