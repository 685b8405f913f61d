/-
  Contract: (*open.Tree).Text: a text is put somewhere, or made longer, or refused.
-/
import Derived.Test.YtidbihdnginmcaaOpenK
namespace Go.Proofs.Ytidbihdnginmcaa
open Go.RowKit Mem

/-- the kid ahead of a place -/
def prevF (T : TreeD) (a : Int) (i : Nat) : Int := ((kidsF T a)[i - 1]?).getD 0
def textAt (T : TreeD) (a b : Int) (s : ByteArray) : TreeD × Int :=
  if 0 < (placeF T a b).toNat ∧ elemF T (prevF T a (placeF T a b).toNat) = false then (modN T (prevF T a (placeF T a b).toNat) (addText s), 0)
  else if (T.nodes.length : Int) - 1 < T.most then (insertF (addF T (textN s)) a (placeF T a b).toNat T.nodes.length, 0) else (T, 43)
def textE (T : TreeD) (a b : Int) (s : ByteArray) : TreeD × Int :=
  if holdsF T a && decide (0 ≤ placeF T a b) then (if s.size = 0 then (T, 0) else textAt T a b s) else (T, 47)

theorem keeps_two {tb g g' : Nat} {w w1 w2 : World} (h1 : Keeps (Two tb g) w w1) (h2 : Keeps (Two tb g') w1 w2) (hg : g' = g ∨ w.heap.size ≤ g') : Keeps (Two tb g) w w2 :=
  ⟨h2.os.trans h1.os, h2.tape.trans h1.tape, h2.output.trans h1.output, Nat.le_trans h1.size h2.size, fun k hk hF => (h2.block k (Nat.lt_of_lt_of_le hk h1.size) (by
    rintro (h | h)
    · exact hF (.inl h)
    · rcases hg with rfl | hg
      · exact hF (.inr h)
      · omega)).trans (h1.block k hk hF)⟩


theorem text_no (T : TreeD) (tb g : Nat) (w : World) (a b : Int) (s : ByteArray) (hp : 0 < T.nodes.length) (h : TreeO w tb g T) (hno : (holdsF T a && decide (0 ≤ placeF T a b)) = false) :
    Calls Try.prog 47 #[.pointer (some ⟨tb, 0, none⟩), .int .i64 a, .int .i64 b, .string s] w fun e w' => e = .returned (.int .i64 47) ∧ w = w' := by
  have H1 := Lib.hid (holds_any T tb g w a h)
  cases h1 : holdsF T a
  · rw [h1] at H1
    clear h hno
    go_enter Try.func47, Try.ntmps47
    go_wp2_with (first | (go_at_call 57; go_must (refine H1.out.mono ?_; rintro e w1 ⟨rfl, rfl⟩)) | (go_at_call 59; go_must (refine H4.out.mono ?_; rintro e w1 ⟨rfl, rfl⟩)))
    go_ret
    exact ⟨rfl, rfl⟩
  have ha := holdsF_lt hp h1
  obtain ⟨a, rfl⟩ := Int.eq_ofNat_of_zero_le ha.1
  have H4 := Lib.hid (place_any T tb g w a b (by omega) h)
  rw [h1] at H1 hno
  have h4 : placeF T a b < 0 := by simpa using hno
  clear h hno
  go_enter Try.func47, Try.ntmps47
  go_wp2_with (first | (go_at_call 57; go_must (refine H1.out.mono ?_; rintro e w1 ⟨rfl, rfl⟩)) | (go_at_call 59; go_must (refine H4.out.mono ?_; rintro e w1 ⟨rfl, rfl⟩)))
  go_ret
  exact ⟨rfl, rfl⟩

theorem text_empty (T : TreeD) (tb g : Nat) (w : World) (a : Nat) (b : Int) (s : ByteArray) (ha : a < T.nodes.length) (h : TreeO w tb g T) (h1 : holdsF T a = true) (h4 : 0 ≤ placeF T a b) (hs : s.size = 0) :
    Calls Try.prog 47 #[.pointer (some ⟨tb, 0, none⟩), .int .i64 a, .int .i64 b, .string s] w fun e w' => e = .returned (.int .i64 0) ∧ w = w' := by
  have H1 := Lib.hid (holds_any T tb g w a h)
  have H4 := Lib.hid (place_any T tb g w a b ha h)
  rw [h1] at H1
  have h4' : ¬ (placeF T a b < 0) := by omega
  obtain rfl : s = ⟨#[]⟩ := ByteArray.ext (Array.eq_empty_of_size_eq_zero hs)
  clear h h4
  go_enter Try.func47, Try.ntmps47
  go_wp2_with (first | (go_at_call 57; go_must (refine H1.out.mono ?_; rintro e w1 ⟨rfl, rfl⟩)) | (go_at_call 59; go_must (refine H4.out.mono ?_; rintro e w1 ⟨rfl, rfl⟩)))
  go_ret
  exact ⟨rfl, rfl⟩

theorem size_toList_ne {s : ByteArray} (hs : s.size ≠ 0) : (s.toList == []) = false := by
  rw [beq_eq_false_iff_ne]
  intro e
  have := size_toList s
  rw [e] at this
  exact hs (by simpa using this.symm)

set_option maxRecDepth 100000 in
set_option maxHeartbeats 4000000 in
theorem text_longer (T : TreeD) (tb g : Nat) (w : World) (a j k : Nat) (b : Int) (s : ByteArray) (ha : a < T.nodes.length) (hk1 : k < T.nodes.length) (h : TreeO w tb g T) (h1 : holdsF T a = true) (h4 : placeF T a b = (j : Int) + 1) (hs : s.size ≠ 0)
    (l : List Int) (hl : l = T.nodes[a].kids) (hj : j < l.length) (hlk : l[j] = k) (hkl : l.length ≤ 2097152) (hel : T.nodes[k].elem = false) (hts : T.nodes[k].text.size + s.size ≤ 9223372036854775807) :
    Calls Try.prog 47 #[.pointer (some ⟨tb, 0, none⟩), .int .i64 a, .int .i64 b, .string s] w fun e w' => e = .returned (.int .i64 0) ∧ TreeO w' tb g (modN T k (addText s)) ∧ Keeps (Two tb g) w w' := by
  have H1 := Lib.hid (holds_any T tb g w a h)
  have H4 := Lib.hid (place_any T tb g w a b ha h)
  rw [h1] at H1
  rw [h4] at H4
  have h4' : ¬ ((j : Int) + 1 < 0) := by omega
  have h4'' : (0 : Int) < (j : Int) + 1 := by omega
  have hw1 : IntKind.i64.wrap ((j : Int) + 1 - 1) = (j : Int) := by rw [IntKind.wrap_i64]; omega
  have hw2 : IntKind.i64.wrap (j : Int) = (j : Int) := by rw [IntKind.wrap_i64]; omega
  have hs' := size_toList_ne hs
  obtain ⟨cap, p1, p2, c0, _, _, _⟩ := h.head
  obtain ⟨aa, ac, ka, kc, _, _, _, hk4, hk5, _, _, hkat, hc, _⟩ := h.node ha
  have d6 := hc 6 _ rfl
  rw [← hl] at d6 hkat hk4
  obtain ⟨kb, ko, rfl, e1⟩ := hkat.at _ _ (intsV_get l j hj)
  rw [hlk] at e1
  obtain ⟨aa', ac', ka', kc', _, _, _, _, _, _, _, _, hc', hf'⟩ := h.node hk1
  have d0 := hc' 0 _ rfl
  have d4 := hc' 4 _ rfl
  rw [Nat.add_zero] at d0
  rw [hel] at d0
  have f4 := hf' (k * 7 + 4)
  have HT := Lib.hid (tree_text h hk1 s)
  have HK := Lib.hid ((Keeps.refl (Two tb g) w).set (p := ⟨g, k * 7 + 4, none⟩) (.inl (.inr rfl)) (.string (T.nodes[k].text ++ s)))
  unfold maxLen at p2 hk5
  have hts' : ¬ (9223372036854775807 < T.nodes[k].text.size + s.size) := by omega
  clear h h4 hs hc hc' hf' hkat hl hlk
  go_enter Try.func47, Try.ntmps47
  go_wp2_with (first | (go_at_call 57; go_must (refine H1.out.mono ?_; rintro e w1 ⟨rfl, rfl⟩)) | (go_at_call 59; go_must (refine H4.out.mono ?_; rintro e w1 ⟨rfl, rfl⟩)))
  go_ret
  exact ⟨rfl, HT.out, HK.out⟩

theorem text_full (T : TreeD) (tb g : Nat) (w : World) (a i : Nat) (b : Int) (s : ByteArray) (ha : a < T.nodes.length) (hn : T.nodes.length ≤ 1048576) (h : TreeO w tb g T) (h1 : holdsF T a = true) (h4 : placeF T a b = i) (hs : s.size ≠ 0)
    (hprev : 0 < i → ∃ (l : List Int) (k : Nat) (hk : k < T.nodes.length) (hj : i - 1 < l.length), l = T.nodes[a].kids ∧ l[i - 1] = k ∧ l.length ≤ 2097152 ∧ T.nodes[k].elem = true)
    (hm : ¬ ((T.nodes.length : Int) - 1 < T.most)) :
    Calls Try.prog 47 #[.pointer (some ⟨tb, 0, none⟩), .int .i64 a, .int .i64 b, .string s] w fun e w' => e = .returned (.int .i64 43) ∧ ∃ g', TreeO w' tb g' T ∧ Keeps (Two tb g) w w' ∧ (g' = g ∨ w.heap.size ≤ g') := by
  have he : mkF T ⟨false, 0, ⟨#[]⟩, [], s, -1, []⟩ = (T, 0, 43) := by rw [mkF, if_neg hm]
  have H1 := Lib.hid (holds_any T tb g w a h)
  have H4 := Lib.hid (place_any T tb g w a b ha h)
  rw [h1] at H1
  have hs' := size_toList_ne hs
  have HM := Lib.hid (make_any T tb g w false 0 0 ⟨#[]⟩ s [] 0 none 0 rfl (fun _ => rfl) (by decide) hn h (At.nil _ _))
  rw [he] at HM
  rw [h4] at H4
  have HT := Lib.hid h
  cases i with
  | zero =>
    have h4' : ¬ (((0 : Nat) : Int) < 0) := by omega
    have h4'' : ¬ ((0 : Int) < ((0 : Nat) : Int)) := by omega
    clear h h4 hprev
    go_enter Try.func47, Try.ntmps47
    go_wp2_with (first | (go_at_call 57; go_must (refine H1.out.mono ?_; rintro e w1 ⟨rfl, rfl⟩)) | (go_at_call 59; go_must (refine H4.out.mono ?_; rintro e w1 ⟨rfl, rfl⟩)))
    refine HM.out.mono ?_
    rintro e w2 ⟨g', hK2, hg2, rfl, hT2⟩
    have HK2 := Lib.hid hK2
    have HT2 := Lib.hid hT2
    clear hK2 hT2
    go_wp2_with fail
    go_ret
    exact ⟨rfl, g', HT2.out, HK2.out, hg2⟩
  | succ j =>
    obtain ⟨l, k, hk1, hj, hl, hlk, hkl, hel⟩ := hprev (Nat.succ_pos _)
    simp only [Nat.add_sub_cancel] at hj hlk
    rw [show ((j + 1 : Nat) : Int) = (j : Int) + 1 from by omega] at H4
    have h4' : ¬ ((j : Int) + 1 < 0) := by omega
    have h4'' : (0 : Int) < (j : Int) + 1 := by omega
    have hw1 : IntKind.i64.wrap ((j : Int) + 1 - 1) = (j : Int) := by rw [IntKind.wrap_i64]; omega
    have hw2 : IntKind.i64.wrap (j : Int) = (j : Int) := by rw [IntKind.wrap_i64]; omega
    obtain ⟨cap, p1, p2, c0, _, _, _⟩ := h.head
    obtain ⟨aa, ac, ka, kc, _, _, _, hk4, hk5, _, _, hkat, hc, _⟩ := h.node ha
    have d6 := hc 6 _ rfl
    rw [← hl] at d6 hkat hk4
    obtain ⟨kb, ko, rfl, e1⟩ := hkat.at _ _ (intsV_get l j hj)
    rw [hlk] at e1
    obtain ⟨aa', ac', ka', kc', _, _, _, _, _, _, _, _, hc', hf'⟩ := h.node hk1
    have d0 := hc' 0 _ rfl
    rw [Nat.add_zero] at d0
    rw [hel] at d0
    unfold maxLen at p2 hk5
    clear h h4 hs hc hc' hf' hkat hl hlk hprev
    go_enter Try.func47, Try.ntmps47
    go_wp2_with (first | (go_at_call 57; go_must (refine H1.out.mono ?_; rintro e w1 ⟨rfl, rfl⟩)) | (go_at_call 59; go_must (refine H4.out.mono ?_; rintro e w1 ⟨rfl, rfl⟩)))
    refine HM.out.mono ?_
    rintro e w2 ⟨g', hK2, hg2, rfl, hT2⟩
    have HK2 := Lib.hid hK2
    have HT2 := Lib.hid hT2
    clear hK2 hT2
    go_wp2_with fail
    go_ret
    exact ⟨rfl, g', HT2.out, HK2.out, hg2⟩

theorem text_new (T : TreeD) (tb g : Nat) (w : World) (a i : Nat) (b : Int) (s : ByteArray) (ha : a < T.nodes.length) (hn : T.nodes.length ≤ 1048576) (h : TreeO w tb g T) (h1 : holdsF T a = true) (h4 : placeF T a b = i) (hs : s.size ≠ 0)
    (hprev : 0 < i → ∃ (l : List Int) (k : Nat) (hk : k < T.nodes.length) (hj : i - 1 < l.length), l = T.nodes[a].kids ∧ l[i - 1] = k ∧ l.length ≤ 2097152 ∧ T.nodes[k].elem = true)
    (hik : i ≤ (kidsF T a).length) (hik2 : (kidsF T a).length ≤ 2097152) (hm : (T.nodes.length : Int) - 1 < T.most) :
    Calls Try.prog 47 #[.pointer (some ⟨tb, 0, none⟩), .int .i64 a, .int .i64 b, .string s] w fun e w' => e = .returned (.int .i64 0) ∧ ∃ g', TreeO w' tb g' (insertF (addF T (textN s)) a i T.nodes.length) ∧ Keeps (Two tb g) w w' ∧ (g' = g ∨ w.heap.size ≤ g') := by
  have he : mkF T ⟨false, 0, ⟨#[]⟩, [], s, -1, []⟩ = (addF T (textN s), (T.nodes.length : Int), 0) := by rw [mkF, if_pos hm]; rfl
  have hal : (addF T (textN s)).nodes.length = T.nodes.length + 1 := by simp [addF]
  have H1 := Lib.hid (holds_any T tb g w a h)
  have H4 := Lib.hid (place_any T tb g w a b ha h)
  rw [h1] at H1
  have hs' := size_toList_ne hs
  have HM := Lib.hid (make_any T tb g w false 0 0 ⟨#[]⟩ s [] 0 none 0 rfl (fun _ => rfl) (by decide) hn h (At.nil _ _))
  rw [he] at HM
  rw [h4] at H4
  have HT := Lib.hid h
  cases i with
  | zero =>
    have h4' : ¬ (((0 : Nat) : Int) < 0) := by omega
    have h4'' : ¬ ((0 : Int) < ((0 : Nat) : Int)) := by omega
    clear h h4 hprev
    go_enter Try.func47, Try.ntmps47
    go_wp2_with (first | (go_at_call 57; go_must (refine H1.out.mono ?_; rintro e w1 ⟨rfl, rfl⟩)) | (go_at_call 59; go_must (refine H4.out.mono ?_; rintro e w1 ⟨rfl, rfl⟩)))
    refine HM.out.mono ?_
    rintro e w2 ⟨g', hK2, hg2, rfl, hT2⟩
    have HK2 := Lib.hid hK2
    have H8 := Lib.hid (insert_any (addF T (textN s)) tb g' w2 a _ T.nodes.length (by rw [hal]; omega) (by rw [hal]; omega) (by rw [addF_kids T _ a ha]; exact hik) (by rw [addF_kids T _ a ha]; exact hik2) hT2)
    clear hK2 hT2
    go_wp2_with fail
    refine H8.out.mono ?_
    rintro e w3 ⟨rfl, hT3, hK3⟩
    have HT3 := Lib.hid hT3
    have HK3 := Lib.hid (keeps_two HK2.out hK3 hg2)
    clear hT3 hK3
    go_wp2_with fail
    go_ret
    exact ⟨rfl, g', HT3.out, HK3.out, hg2⟩
  | succ j =>
    obtain ⟨l, k, hk1, hj, hl, hlk, hkl, hel⟩ := hprev (Nat.succ_pos _)
    simp only [Nat.add_sub_cancel] at hj hlk
    rw [show ((j + 1 : Nat) : Int) = (j : Int) + 1 from by omega] at H4
    have h4' : ¬ ((j : Int) + 1 < 0) := by omega
    have h4'' : (0 : Int) < (j : Int) + 1 := by omega
    have hw1 : IntKind.i64.wrap ((j : Int) + 1 - 1) = (j : Int) := by rw [IntKind.wrap_i64]; omega
    have hw2 : IntKind.i64.wrap (j : Int) = (j : Int) := by rw [IntKind.wrap_i64]; omega
    obtain ⟨cap, p1, p2, c0, _, _, _⟩ := h.head
    obtain ⟨aa, ac, ka, kc, _, _, _, hk4, hk5, _, _, hkat, hc, _⟩ := h.node ha
    have d6 := hc 6 _ rfl
    rw [← hl] at d6 hkat hk4
    obtain ⟨kb, ko, rfl, e1⟩ := hkat.at _ _ (intsV_get l j hj)
    rw [hlk] at e1
    obtain ⟨aa', ac', ka', kc', _, _, _, _, _, _, _, _, hc', hf'⟩ := h.node hk1
    have d0 := hc' 0 _ rfl
    rw [Nat.add_zero] at d0
    rw [hel] at d0
    unfold maxLen at p2 hk5
    clear h h4 hs hc hc' hf' hkat hl hlk hprev
    go_enter Try.func47, Try.ntmps47
    go_wp2_with (first | (go_at_call 57; go_must (refine H1.out.mono ?_; rintro e w1 ⟨rfl, rfl⟩)) | (go_at_call 59; go_must (refine H4.out.mono ?_; rintro e w1 ⟨rfl, rfl⟩)))
    refine HM.out.mono ?_
    rintro e w2 ⟨g', hK2, hg2, rfl, hT2⟩
    have HK2 := Lib.hid hK2
    have H8 := Lib.hid (insert_any (addF T (textN s)) tb g' w2 a _ T.nodes.length (by rw [hal]; omega) (by rw [hal]; omega) (by rw [addF_kids T _ a ha]; exact hik) (by rw [addF_kids T _ a ha]; exact hik2) hT2)
    clear hK2 hT2
    rw [show ((j + 1 : Nat) : Int) = (j : Int) + 1 from by omega] at H8
    go_wp2_with fail
    refine H8.out.mono ?_
    rintro e w3 ⟨rfl, hT3, hK3⟩
    have HT3 := Lib.hid hT3
    have HK3 := Lib.hid (keeps_two HK2.out hK3 hg2)
    clear hT3 hK3
    go_wp2_with fail
    go_ret
    exact ⟨rfl, g', HT3.out, HK3.out, hg2⟩
end Go.Proofs.Ytidbihdnginmcaa
