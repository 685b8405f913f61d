import Derived.Test.YtclflmjpdglgiaaGreatResA
/-
  Plain: an entry -2 that keeps a place among the entries. No conditions beyond those that each lemma types.
-/
namespace Go.Proofs.YtclflmjpdglgiaaGreat
open Go.RowKit Mem

theorem rfind_append (A B : List Int) (x : Int) : rfind (A ++ B) x = if 0 ≤ rfind B x then A.length + rfind B x else rfind A x := by
  induction B generalizing A with
  | nil => rw [List.append_nil, if_neg (by show ¬ (0 : Int) ≤ rfind [] x; exact (by decide : ¬ (0 : Int) ≤ -1))]
  | cons y r ih =>
    rw [show A ++ y :: r = (A ++ [y]) ++ r by simp, ih (A ++ [y]), show y :: r = [y] ++ r from rfl, ih [y], rfind_snoc, show rfind [y] x = if y = x then 0 else -1 from rfind_snoc [] y x, List.length_append, List.length_singleton]
    by_cases h : 0 ≤ rfind r x
    · simp only [if_pos h]
      rw [if_pos (by omega)]; push_cast; omega
    · simp only [if_neg h]
      by_cases hy : y = x
      · simp [hy]
      · simp [hy]
theorem rfind_cons (y : Int) (B : List Int) (x : Int) : rfind (y :: B) x = if 0 ≤ rfind B x then 1 + rfind B x else if y = x then 0 else -1 := by
  rw [show y :: B = [y] ++ B from rfl, rfind_append]
  split
  · rfl
  · rw [show [y] = ([] : List Int) ++ [y] from rfl, rfind_snoc]
    split <;> rfl
theorem rfind_parts (e : List Int) (k : Nat) (hk : k ≤ e.length) (x : Int) : rfind e x = if 0 ≤ rfind (e.drop k) x then k + rfind (e.drop k) x else rfind (e.take k) x := by
  have := rfind_append (e.take k) (e.drop k) x
  rw [List.take_append_drop, List.length_take, Nat.min_eq_left hk] at this
  exact this
theorem rfind_low (e : List Int) (k : Nat) (x : Int) : rfind (e.take k) x < k := by
  have := (rfind_spec (e.take k) x).2.1
  rw [List.length_take] at this
  omega
theorem rfind_ins (e : List Int) (k : Nat) (hk : k ≤ e.length) {x y : Int} (hne : x ≠ y) : rfind (insAt e k y) x = if rfind e x < k then rfind e x else rfind e x + 1 := by
  rw [insAt, rfind_append, rfind_cons, List.length_take, Nat.min_eq_left hk, rfind_parts e k hk x]
  have h1 := rfind_low e k x
  by_cases h : 0 ≤ rfind (e.drop k) x
  · simp only [if_pos h]
    rw [if_pos (by omega), if_neg (by omega)]; omega
  · simp only [if_neg h, if_neg (Ne.symm hne)]
    rw [if_neg (by decide), if_pos h1]
theorem mem_none {e : List Int} {x : Int} : ¬ x ∈ e ↔ rfind e x < 0 := by
  rw [← mem_rfind]; omega
theorem rfind_kept (e : List Int) (k : Nat) (hk : k ≤ e.length) {y : Int} (hy : ¬ y ∈ e) : rfind (insAt e k y) y = k := by
  have h : ¬ 0 ≤ rfind (e.drop k) y := fun h => hy (List.mem_of_mem_drop (mem_rfind.1 h))
  rw [insAt, rfind_append, rfind_cons, if_neg h, if_pos rfl, if_pos (by decide), List.length_take, Nat.min_eq_left hk]
  omega
theorem rm_kept (e : List Int) (k : Nat) (hk : k ≤ e.length) {y : Int} (hy : ¬ y ∈ e) : rmF (insAt e k y) y = e := by
  rw [rmF, rfind_kept e k hk hy, dropF, if_pos (by omega), Int.toNat_natCast, insAt, List.eraseIdx_append_of_length_le (by rw [List.length_take]; omega), List.length_take, Nat.min_eq_left hk, Nat.sub_self, List.eraseIdx_cons_zero, List.take_append_drop]
theorem set_kept (e : List Int) (k : Nat) (hk : k ≤ e.length) (y n : Int) : (insAt e k y).set k n = insAt e k n := by
  unfold insAt
  rw [List.set_append_right _ _ (by rw [List.length_take]; omega), List.length_take, Nat.min_eq_left hk, Nat.sub_self]
  rfl
theorem ins_get (e : List Int) (k : Nat) (hk : k ≤ e.length) (y : Int) (m : Nat) : (insAt e k y)[m]? = if m < k then e[m]? else if m = k then some y else e[m - 1]? := by
  unfold insAt
  rw [List.getElem?_append, List.length_take, Nat.min_eq_left hk]
  by_cases h : m < k
  · rw [if_pos h, if_pos h, List.getElem?_take_of_lt h]
  · rw [if_neg h, if_neg h]
    by_cases h2 : m = k
    · subst h2; simp
    · rw [if_neg h2]
      obtain ⟨d, rfl⟩ : ∃ d, m = k + d + 1 := ⟨m - k - 1, by omega⟩
      rw [show k + d + 1 - k = d + 1 by omega, List.getElem?_cons_succ, List.getElem?_drop]
      rfl
theorem rm_ins (e : List Int) (k : Nat) (hk : k ≤ e.length) {x y : Int} (hne : x ≠ y) (hx : x ∈ e) : rmF (insAt e k y) x = insAt (rmF e x) (if rfind e x < k then k - 1 else k) y := by
  have h0 := mem_rfind.2 hx
  have hl := (rfind_spec e x).2.1
  rw [rmF, rfind_ins e k hk hne, rmF, dropF, dropF, if_pos h0]
  obtain ⟨i, hi⟩ := Int.eq_ofNat_of_zero_le h0
  rw [hi] at hl ⊢
  have hil : i < e.length := by omega
  have hle : (e.eraseIdx i).length = e.length - 1 := by rw [List.length_eraseIdx, if_pos hil]
  apply List.ext_getElem?
  intro m
  by_cases h : (i : Int) < k
  · rw [if_pos h, if_pos (by omega), if_pos h, Int.toNat_natCast, ins_get _ _ (by omega), List.getElem?_eraseIdx, List.getElem?_eraseIdx, List.getElem?_eraseIdx, ins_get _ _ hk, ins_get _ _ hk]
    by_cases h1 : m < i
    · rw [if_pos h1, if_pos (by omega), if_pos (by omega), if_pos h1]
    · rw [if_neg h1]
      by_cases h2 : m + 1 < k
      · rw [if_pos h2, if_pos (by omega), if_neg h1]
      · rw [if_neg h2]
        by_cases h3 : m + 1 = k
        · rw [if_pos h3, if_neg (by omega), if_pos (by omega)]
        · rw [if_neg h3, if_neg (by omega), if_neg (by omega), if_neg (by omega), Nat.add_sub_cancel, show m - 1 + 1 = m by omega]
  · rw [if_neg h, if_pos (by omega), if_neg h, show ((i : Int) + 1).toNat = i + 1 by omega, Int.toNat_natCast, ins_get _ _ (by omega), List.getElem?_eraseIdx, List.getElem?_eraseIdx, List.getElem?_eraseIdx, ins_get _ _ hk, ins_get _ _ hk]
    by_cases h1 : m < k
    · rw [if_pos (by omega), if_pos h1, if_pos h1, if_pos (by omega)]
    · by_cases h2 : m = k
      · rw [if_pos (by omega), if_neg h1, if_pos h2, if_neg h1, if_pos h2]
      · by_cases h3 : m < i + 1
        · rw [if_pos h3, if_neg h1, if_neg h2, if_neg h1, if_neg h2, if_pos (by omega)]
        · rw [if_neg h3, if_neg (by omega), if_neg (by omega), if_neg h1, if_neg h2, if_neg (by omega), Nat.add_sub_cancel, show m - 1 + 1 = m by omega]
theorem ins_set (e : List Int) (k : Nat) (hk : k ≤ e.length) (y n : Int) {i : Nat} (hi : i < e.length) : (insAt e k y).set (if i < k then i else i + 1) n = insAt (e.set i n) k y := by
  apply List.ext_getElem?
  intro m
  have hl : (insAt e k y).length = e.length + 1 := insAt_len _ _ _ hk
  rw [ins_get _ _ (by rw [List.length_set]; exact hk), List.getElem?_set, List.getElem?_set, List.getElem?_set, ins_get _ _ hk, hl]
  by_cases h : i < k
  · rw [if_pos h]
    by_cases h1 : i = m
    · subst h1
      rw [if_pos rfl, if_pos (by omega), if_pos h, if_pos rfl, if_pos hi]
    · rw [if_neg h1, if_neg h1]
      by_cases h2 : m < k
      · rw [if_pos h2, if_pos h2]
      · rw [if_neg h2, if_neg h2]
        by_cases h3 : m = k
        · rw [if_pos h3, if_pos h3]
        · rw [if_neg h3, if_neg h3, if_neg (by omega)]
  · rw [if_neg h]
    by_cases h1 : i + 1 = m
    · subst h1
      rw [if_pos rfl, if_pos (by omega), if_neg (by omega), if_neg (by omega), Nat.add_sub_cancel, if_pos rfl, if_pos hi]
    · rw [if_neg h1]
      by_cases h2 : m < k
      · rw [if_pos h2, if_pos h2, if_neg (by omega)]
      · rw [if_neg h2, if_neg h2]
        by_cases h3 : m = k
        · rw [if_pos h3, if_pos h3]
        · rw [if_neg h3, if_neg h3, if_neg (by omega)]
/-- once taken away it is no entry any more -/
theorem rm_one {e : List Int} {x : Int} (h : e.count x ≤ 1) : rfind (rmF e x) x < 0 := by
  rw [← mem_none]
  intro hx
  by_cases h0 : 0 ≤ rfind e x
  · obtain ⟨i, hi⟩ := Int.eq_ofNat_of_zero_le h0
    have hs := rfind_spec e x
    have hil : i < e.length := by omega
    have hex : e[i] = x := hs.2.2.2 i hil hi
    rw [rmF, dropF, if_pos h0, hi, Int.toNat_natCast] at hx
    have h1 := List.count_pos_iff.2 hx
    have h2 : (e.eraseIdx i).count x + 1 = e.count x := by
      rw [← List.take_append_drop i e, List.drop_eq_getElem_cons hil, hex, List.eraseIdx_append_of_length_le (by rw [List.length_take]; omega), List.length_take, Nat.min_eq_left (by omega), Nat.sub_self, List.eraseIdx_cons_zero, List.count_append, List.count_append, List.count_cons_self]
      omega
    omega
  · rw [rmF, dropF, if_neg h0] at hx
    exact h0 (mem_rfind.2 hx)
/-- a new entry is found in its place -/
theorem rfind_set {e : List Int} {n : Int} (hn : ¬ n ∈ e) {i : Nat} (hi : i < e.length) : rfind (e.set i n) n = i := by
  have hs := rfind_spec (e.set i n) n
  have hm : (e.set i n)[i]'(by rw [List.length_set]; exact hi) = n := by rw [List.getElem_set_self]
  have h1 : (i : Int) ≤ rfind (e.set i n) n := by
    rcases Int.lt_or_le (rfind (e.set i n) n) i with h | h
    · exact absurd hm (hs.2.2.1 i _ h)
    · exact h
  obtain ⟨j, hj⟩ := Int.eq_ofNat_of_zero_le (by omega : 0 ≤ rfind (e.set i n) n)
  have hjl : j < (e.set i n).length := by omega
  have hjn := hs.2.2.2 j hjl hj
  by_cases hij : i = j
  · rw [hj, hij]
  · rw [List.getElem_set_ne hij] at hjn
    exact absurd (by rw [← hjn]; exact List.getElem_mem _) hn
end Go.Proofs.YtclflmjpdglgiaaGreat

/-
  Plain: the entries while an element is turned. No conditions beyond those that each lemma types.
-/
namespace Go.Proofs.YtclflmjpdglgiaaGreat
open Go.RowKit Mem

/-- what holds of the entries while an element is turned -/
structure KpI (f : Int) (T : TreeD) (e : List Int) (kp : Int) (r : List Int) : Prop where
  k0 : 0 ≤ kp
  k1 : kp ≤ e.length
  mem : f ∈ e
  el : ∀ x ∈ e, x = -1 ∨ elemF T x = true
  one : ∀ y ∈ r, e.count y ≤ 1 ∧ elemF T y = true
theorem elem_pos {T : TreeD} {x : Int} (h : elemF T x = true) : 1 ≤ x ∧ x < T.nodes.length := by
  obtain ⟨i, hi, rfl, h1, _⟩ := elemF_nat h
  omega
theorem ent_no {T : TreeD} {e : List Int} (h : ∀ x ∈ e, x = -1 ∨ elemF T x = true) : ¬ (-2) ∈ e := fun hx => by
  rcases h _ hx with h1 | h1
  · cases h1
  · have := elem_pos h1; omega
theorem KpI.no {f : Int} {T : TreeD} {e : List Int} {kp : Int} {r : List Int} (h : KpI f T e kp r) : ¬ (-2) ∈ e := ent_no h.el
theorem addF_new (T : TreeD) (d : ND) (h : 1 ≤ T.nodes.length) : elemF (addF T d) T.nodes.length = d.elem := by
  rw [elemF_of (addF T d) T.nodes.length h (by simp [addF])]
  simp [addF]
theorem mkF_new {T : TreeD} {d : ND} (hd : d.elem = true) (h1 : 1 ≤ T.nodes.length) (h : (mkF T d).2.2 = 0) : (mkF T d).2.1 = T.nodes.length ∧ elemF (mkF T d).1 T.nodes.length = true := by
  unfold mkF at h ⊢
  split
  · exact ⟨rfl, (addF_new T d h1).trans hd⟩
  · rename_i hn
    rw [if_neg hn] at h
    cases h
theorem likeF_new {T : TreeD} {x : Int} (h : (likeF T x).2.2 = 0) : (likeF T x).2.1 = T.nodes.length ∧ elemF (likeF T x).1 T.nodes.length = true := by
  unfold likeF at h ⊢
  split
  · rename_i hx
    rw [if_pos hx] at h
    have := elem_pos hx
    exact mkF_new rfl (by omega) h
  · rename_i hx
    rw [if_neg hx] at h
    cases h
theorem count_erase_le (e : List Int) (i : Nat) (y : Int) : (e.eraseIdx i).count y ≤ e.count y := (List.eraseIdx_sublist e i).count_le y
theorem count_set_le {e : List Int} {j : Nat} {n y : Int} (hn : n ≠ y) : (e.set j n).count y ≤ e.count y := by
  by_cases hj : j < e.length
  · rw [List.set_eq_take_append_cons_drop, if_pos hj]
    conv => rhs; rw [← List.take_append_drop j e, List.drop_eq_getElem_cons hj]
    rw [List.count_append, List.count_append, List.count_cons_of_ne hn]
    have := List.count_le_count_cons (a := y) (b := e[j]) (l := e.drop (j + 1))
    omega
  · rw [List.set_eq_of_length_le (by omega)]
    exact Nat.le_refl _
theorem mem_set_or {e : List Int} {j : Nat} {n x : Int} (h : x ∈ e.set j n) : x ∈ e ∨ x = n := by
  rcases List.mem_or_eq_of_mem_set h with h | h
  · exact .inl h
  · exact .inr h
theorem rm_absent {e : List Int} {k : Nat} (hk : k ≤ e.length) {x : Int} (hx : ¬ x ∈ e) (h2 : x ≠ -2) : rfind (insAt e k (-2)) x < 0 ∧ rmF (insAt e k (-2)) x = insAt e k (-2) := by
  have h := mem_none.1 hx
  have h3 : rfind (insAt e k (-2)) x < 0 := by
    rw [rfind_ins e k hk h2, if_pos (by omega)]
    exact h
  exact ⟨h3, by rw [rmF, dropF, if_neg (by omega)]⟩

section
variable {f : Int} {T U : TreeD} {e : List Int} {kn : Nat} {x : Int} {r : List Int}
theorem KpI.less (h : KpI f T e kn (x :: r)) : KpI f T e kn r := ⟨h.k0, h.k1, h.mem, h.el, fun y hy => h.one y (List.mem_cons_of_mem _ hy)⟩
/-- an entry is taken away -/
theorem KpI.drop (h : KpI f T e kn (x :: r)) (hx : x ∈ e) (hne : x ≠ f) : (e.count x ≤ 1) ∧ KpI f T (rmF e x) ((if rfind e x < kn then kn - 1 else kn : Nat) : Int) r ∧ (rmF e x).length + 1 = e.length := by
  have h0 := mem_rfind.2 hx
  have hs := rfind_spec e x
  have hl : (rmF e x).length = e.length - 1 := by
    rw [rmF, dropF, if_pos h0, List.length_eraseIdx, if_pos (by omega)]
  have hk1 := h.k1
  refine ⟨(h.one x List.mem_cons_self).1, ⟨by omega, ?_, mem_drop h.mem hne, fun y hy => ?_, fun y hy => ?_⟩, by omega⟩
  · split <;> omega
  · rw [rmF, dropF, if_pos h0] at hy
    exact h.el y (List.mem_of_mem_eraseIdx hy)
  · obtain ⟨q1, q2⟩ := h.one y (List.mem_cons_of_mem _ hy)
    refine ⟨Nat.le_trans ?_ q1, q2⟩
    rw [rmF, dropF, if_pos h0]
    exact count_erase_le _ _ _
/-- an entry is another one -/
theorem KpI.set (h : KpI f T e kn (x :: r)) (hx : x ∈ e) (hne : x ≠ f) {n : Int} (hn : n = T.nodes.length) (hm : Mor T U) (hel : elemF U n = true) {kq : Int} (hq0 : 0 ≤ kq) (hq1 : kq ≤ e.length) : KpI f U (e.set (rfind e x).toNat n) kq r ∧ ¬ n ∈ e := by
  have h0 := mem_rfind.2 hx
  refine ⟨⟨hq0, by rw [List.length_set]; exact hq1, mem_set h.mem hne h0, fun y hy => ?_, fun y hy => ?_⟩, fun hn' => ?_⟩
  · rcases mem_set_or hy with hy | hy
    · exact (h.el y hy).imp id (hm.2.2 y)
    · subst hy; exact .inr hel
  · obtain ⟨q1, q2⟩ := h.one y (List.mem_cons_of_mem _ hy)
    have := elem_pos q2
    exact ⟨Nat.le_trans (count_set_le (by omega)) q1, hm.2.2 y q2⟩
  · rcases h.el n hn' with h1 | h1
    · omega
    · have := elem_pos h1; omega
end
end Go.Proofs.YtclflmjpdglgiaaGreat
