/-
  Plain: what holds of a list with its tree and open elements, whatever is done: all open are elements, each once; so are the entries, but markers. No conditions beyond those that each lemma types.
-/
import Derived.Test.YtclflmjpdglgiaaGreatKpAB
namespace Go.Proofs.YtclflmjpdglgiaaGreat
open Go.RowKit Mem

structure FI (T : TreeD) (l ent : List Int) : Prop where
  lel : ∀ x ∈ l, elemF T x = true
  lnd : ∀ x, l.count x ≤ 1
  eel : ∀ x ∈ ent, x = -1 ∨ elemF T x = true
  one : ∀ x, x ≠ -1 → ent.count x ≤ 1

theorem insAt_count (e : List Int) (k : Nat) (n x : Int) : (insAt e k n).count x = e.count x + if n = x then 1 else 0 := by
  unfold insAt
  conv => rhs; rw [← List.take_append_drop k e]
  rw [List.count_append, List.count_append, List.count_cons]
  by_cases h : n = x
  · subst h; simp; omega
  · have : (n == x) = false := by simpa using h
    rw [this, if_neg h]; simp
theorem count_set_one {e : List Int} {n : Int} (hn : ¬ n ∈ e) (i : Nat) : (e.set i n).count n ≤ 1 := by
  by_cases hi : i < e.length
  · rw [List.set_eq_take_append_cons_drop, if_pos hi, List.count_append, List.count_cons_self, List.count_eq_zero.2 fun h => hn (List.mem_of_mem_take h), List.count_eq_zero.2 fun h => hn (List.mem_of_mem_drop h)]
    omega
  · rw [List.set_eq_of_length_le (by omega), List.count_eq_zero.2 hn]
    omega
theorem mem_insAt {e : List Int} {k : Nat} {n x : Int} (h : x ∈ insAt e k n) : x ∈ e ∨ x = n := by
  unfold insAt at h
  rcases List.mem_append.1 h with h | h
  · exact .inl (List.mem_of_mem_take h)
  · rcases List.mem_cons.1 h with h | h
    · exact .inr h
    · exact .inl (List.mem_of_mem_drop h)

section
variable {T U : TreeD} {l l' ent ent' : List Int} {n : Int}
theorem FI.nil (T : TreeD) : FI T [] [] := ⟨fun _ h => (List.not_mem_nil h).elim, fun _ => by simp, fun _ h => (List.not_mem_nil h).elim, fun _ _ => by simp⟩
theorem FI.grow (h : FI T l ent) (hm : Mor T U) : FI U l ent := ⟨fun x hx => hm.2.2 x (h.lel x hx), h.lnd, fun x hx => (h.eel x hx).imp id (hm.2.2 x), h.one⟩
theorem FI.sub (h : FI T l ent) (hl : l'.Sublist l) (he : ent'.Sublist ent) : FI T l' ent' :=
  ⟨fun x hx => h.lel x (hl.subset hx), fun x => Nat.le_trans (hl.count_le x) (h.lnd x), fun x hx => h.eel x (he.subset hx), fun x hx => Nat.le_trans (he.count_le x) (h.one x hx)⟩
theorem FI.mark (h : FI T l ent) : FI T l (ent ++ [-1]) := by
  refine ⟨h.lel, h.lnd, fun x hx => ?_, fun x hx => ?_⟩
  · rcases List.mem_append.1 hx with hx | hx
    · exact h.eel x hx
    · exact .inl (List.mem_singleton.1 hx)
  · rw [List.count_append, List.count_singleton, if_neg (by simpa using fun e => hx e.symm)]
    exact h.one x hx
theorem FI.fresh (h : FI T l ent) (hn : n = T.nodes.length) : ¬ n ∈ l ∧ ¬ n ∈ ent := by
  refine ⟨fun hx => ?_, fun hx => ?_⟩
  · have := elem_pos (h.lel n hx); omega
  · rcases h.eel n hx with h1 | h1
    · omega
    · have := elem_pos h1; omega
theorem count_fresh {e : List Int} (hn : ¬ n ∈ e) : e.count n = 0 := List.count_eq_zero.2 hn
/-- a new element is opened somewhere -/
theorem FI.ins (h : FI T l ent) (hn : n = T.nodes.length) (hm : Mor T U) (hel : elemF U n = true) (k : Nat) : FI U (insAt l k n) ent := by
  obtain ⟨h1, _⟩ := h.fresh hn
  refine ⟨fun x hx => ?_, fun x => ?_, (h.grow hm).eel, h.one⟩
  · rcases mem_insAt hx with hx | hx
    · exact hm.2.2 x (h.lel x hx)
    · rw [hx]; exact hel
  · rw [insAt_count]
    by_cases e : n = x
    · subst e; rw [count_fresh h1, if_pos rfl]; omega
    · rw [if_neg e]; exact h.lnd x
theorem FI.put (h : FI T l ent) (hn : n = T.nodes.length) (hm : Mor T U) (hel : elemF U n = true) (i : Nat) : FI U (l.set i n) ent := by
  obtain ⟨h1, _⟩ := h.fresh hn
  refine ⟨fun x hx => ?_, fun x => ?_, (h.grow hm).eel, h.one⟩
  · rcases mem_set_or hx with hx | hx
    · exact hm.2.2 x (h.lel x hx)
    · rw [hx]; exact hel
  · by_cases e : n = x
    · subst e
      exact count_set_one h1 i
    · exact Nat.le_trans (count_set_le e) (h.lnd x)
theorem FI.eins (h : FI T l ent) (hn : elemF T n = true) (hne : ¬ n ∈ ent) (k : Nat) : FI T l (insAt ent k n) := by
  refine ⟨h.lel, h.lnd, fun x hx => ?_, fun x hx => ?_⟩
  · rcases mem_insAt hx with hx | hx
    · exact h.eel x hx
    · rw [hx]; exact .inr hn
  · rw [insAt_count]
    by_cases e : n = x
    · subst e; rw [count_fresh hne, if_pos rfl]; omega
    · rw [if_neg e]; exact h.one x hx
theorem FI.eset (h : FI T l ent) (hn : elemF T n = true) (hne : ¬ n ∈ ent) (i : Nat) : FI T l (ent.set i n) := by
  refine ⟨h.lel, h.lnd, fun x hx => ?_, fun x hx => ?_⟩
  · rcases mem_set_or hx with hx | hx
    · exact h.eel x hx
    · rw [hx]; exact .inr hn
  · by_cases e : n = x
    · subst e
      exact count_set_one hne i
    · exact Nat.le_trans (count_set_le e) (h.one x hx)
theorem append_insAt (e : List Int) (n : Int) : e ++ [n] = insAt e e.length n := by
  unfold insAt
  rw [List.take_of_length_le (Nat.le_refl _), List.drop_of_length_le (Nat.le_refl _)]
theorem dropF_sub (e : List Int) (i : Int) : (dropF e i).Sublist e := by
  unfold dropF
  split
  · exact List.eraseIdx_sublist _ _
  · exact List.Sublist.refl _
theorem rmF_sub (e : List Int) (n : Int) : (rmF e n).Sublist e := dropF_sub e _
theorem FI.epush (h : FI T l ent) (hn : elemF T n = true) (hne : ¬ n ∈ ent) : FI T l (pushF T ent n) := by
  unfold pushF
  rw [append_insAt]
  split
  · exact (h.sub (List.Sublist.refl _) (dropF_sub _ _)).eins hn (fun hx => hne ((dropF_sub _ _).subset hx)) _
  · exact h.eins hn hne _
theorem clearF_sub (e : List Int) : (clearF e).Sublist e := List.take_sublist _ _
theorem insertL_new {on : Bool} {sp : Int} {nm : ByteArray} {at' : List Pair} (h1 : 1 ≤ T.nodes.length) (hm : (T.nodes.length : Int) - 1 < T.most) : elemF (insertL T l on sp nm at').1 T.nodes.length = true := by
  have e : mkF T (elemN sp nm at') = (addF T (elemN sp nm at'), (T.nodes.length : Int), 0) := by rw [mkF, if_pos hm]
  unfold insertL
  rw [e]
  exact (putE_mor _ _ _ _).2.2 _ (addF_new T _ h1)
theorem FI.insert (h : FI T l ent) (h1 : 1 ≤ T.nodes.length) (on : Bool) (sp : Int) (nm : ByteArray) (at' : List Pair) : FI (insertL T l on sp nm at').1 (insertL T l on sp nm at').2.1 ent := by
  by_cases hm : (T.nodes.length : Int) - 1 < T.most
  · obtain ⟨q1, q2, q3⟩ := insertL_yes hm l on sp nm at'
    rw [q1, append_insAt]
    exact h.ins rfl (insertL_mor T l on sp nm at') (insertL_new h1 hm) _
  · rw [insertL_no hm]
    exact h
theorem swapF_eq (l : List Int) (o n : Int) : swapF l o n = l ∨ ∃ i, swapF l o n = l.set i n := by
  unfold swapF
  split
  · exact .inr ⟨_, rfl⟩
  · exact .inl rfl
theorem insF_eq (l : List Int) (b n : Int) : insF l b n = l ∨ ∃ i, insF l b n = insAt l i n := by
  unfold insF
  split
  · exact .inr ⟨_, rfl⟩
  · exact .inl rfl
end
theorem turnR_fi (b : Int) : ∀ (r : List Int) (c : Nat) (S : TS), FI S.T S.l S.ent → FI (turnR b r c S).1.T (turnR b r c S).1.l (turnR b r c S).1.ent ∧ Mor S.T (turnR b r c S).1.T
  | [], _, S, h => ⟨h, Mor.refl _⟩
  | x :: r, c, S, h => by
    rw [turnR]
    split
    · split
      · exact turnR_fi b r (c + 1) _ (h.sub (rmF_sub _ _) (dropF_sub _ _))
      · split
        · rename_i h0 _ he
          obtain ⟨hn, hel⟩ := likeF_new he
          rw [← hn] at hel
          have hm := likeF_mor S.T x
          have hp := putE_mor (likeF S.T x).1 (likeF S.T x).2.1 0 S.last
          have hfr := h.fresh hn
          have h1 : FI (putE (likeF S.T x).1 (likeF S.T x).2.1 0 S.last).1 (swapF S.l x (likeF S.T x).2.1) S.ent := by
            rcases swapF_eq S.l x (likeF S.T x).2.1 with e | ⟨i, e⟩
            · rw [e]; exact h.grow (hm.trans hp)
            · rw [e]; exact h.put hn (hm.trans hp) (hp.2.2 _ hel) i
          have h2 := turnR_fi b r (c + 1) ⟨(putE (likeF S.T x).1 (likeF S.T x).2.1 0 S.last).1, swapF S.l x (likeF S.T x).2.1, S.ent.set (rfind S.ent x).toNat (likeF S.T x).2.1, if S.last = b then rfind S.ent x + 1 else S.keep, (likeF S.T x).2.1⟩ (h1.eset (hp.2.2 _ hel) hfr.2 _)
          exact ⟨h2.1, (hm.trans hp).trans h2.2⟩
        · exact ⟨h.grow (likeF_mor _ _), likeF_mor _ _⟩
    · exact turnR_fi b r (c + 1) _ (h.sub (rmF_sub _ _) (List.Sublist.refl _))
theorem closeL_fi {T : TreeD} {l ent : List Int} (h : FI T l ent) (f b keep : Int) : FI (closeL T l ent f b keep).1 (closeL T l ent f b keep).2.1 (closeL T l ent f b keep).2.2.1 ∧ Mor T (closeL T l ent f b keep).1 := by
  unfold closeL
  split
  · rename_i he
    obtain ⟨hn, hel⟩ := likeF_new he
    rw [← hn] at hel
    have hm := likeF_mor T f
    have hp := (moveE_mor (likeF T f).1 b (likeF T f).2.1).trans (putE_mor (moveE (likeF T f).1 b (likeF T f).2.1).1 b 0 (likeF T f).2.1)
    have hfr := h.fresh hn
    refine ⟨?_, hm.trans hp⟩
    refine FI.eins ?_ (hp.2.2 _ hel) (fun hx => hfr.2 ((dropF_sub _ _).subset hx)) _
    have h1 : FI T (rmF l f) (dropF ent (rfind ent f)) := h.sub (rmF_sub _ _) (dropF_sub _ _)
    show FI _ (insF (rmF l f) b (likeF T f).2.1) _
    rcases insF_eq (rmF l f) b (likeF T f).2.1 with e | ⟨i, e⟩
    · rw [e]; exact h1.grow (hm.trans hp)
    · rw [e]; exact h1.ins hn (hm.trans hp) (hp.2.2 _ hel) i
  · exact ⟨h.grow (likeF_mor _ _), likeF_mor _ _⟩
theorem turnL_fi {T : TreeD} {l ent : List Int} (h : FI T l ent) (on : Bool) (f b : Int) : FI (turnL T l ent on f b).1 (turnL T l ent on f b).2.1 (turnL T l ent on f b).2.2.1 ∧ Mor T (turnL T l ent on f b).1 := by
  obtain ⟨h1, h2⟩ := turnR_fi b (betweenF l f b).reverse 1 ⟨T, l, ent, rfind ent f, b⟩ h
  unfold turnL
  simp only
  split
  · have hp := putE_mor (turnR b (betweenF l f b).reverse 1 ⟨T, l, ent, rfind ent f, b⟩).1.T (if underF l f ≠ 0 then placeQ (turnR b (betweenF l f b).reverse 1 ⟨T, l, ent, rfind ent f, b⟩).1.T (turnR b (betweenF l f b).reverse 1 ⟨T, l, ent, rfind ent f, b⟩).1.l on (underF l f) else (0, 0)).1 (if underF l f ≠ 0 then placeQ (turnR b (betweenF l f b).reverse 1 ⟨T, l, ent, rfind ent f, b⟩).1.T (turnR b (betweenF l f b).reverse 1 ⟨T, l, ent, rfind ent f, b⟩).1.l on (underF l f) else (0, 0)).2 (turnR b (betweenF l f b).reverse 1 ⟨T, l, ent, rfind ent f, b⟩).1.last
    obtain ⟨h3, h4⟩ := closeL_fi (h1.grow hp) f b (turnR b (betweenF l f b).reverse 1 ⟨T, l, ent, rfind ent f, b⟩).1.keep
    exact ⟨h3, (h2.trans hp).trans h4⟩
  · exact ⟨h1, h2⟩
theorem adoptR_fi (on : Bool) (name : ByteArray) : ∀ (r t : Nat) (S : AS), FI S.T S.l S.ent → FI (adoptR on name r t S).1.T (adoptR on name r t S).1.l (adoptR on name r t S).1.ent ∧ Mor S.T (adoptR on name r t S).1.T
  | 0, _, S, h => ⟨h, Mor.refl _⟩
  | r + 1, t, S, h => by
    rw [adoptR]
    split
    · exact ⟨h, Mor.refl _⟩
    · split
      · exact ⟨h.sub (List.Sublist.refl _) (rmF_sub _ _), Mor.refl _⟩
      · split
        · exact ⟨h, Mor.refl _⟩
        · split
          · exact ⟨h.sub (List.take_sublist _ _) (rmF_sub _ _), Mor.refl _⟩
          · obtain ⟨h1, h2⟩ := turnL_fi h on (findF S.T S.ent name) (blockF S.T S.l (findF S.T S.ent name))
            split
            · obtain ⟨h3, h4⟩ := adoptR_fi on name r (t + 1) ⟨_, _, _⟩ h1
              exact ⟨h3, h2.trans h4⟩
            · exact ⟨h1, h2⟩
theorem adoptL_fi {S : AS} (h : FI S.T S.l S.ent) (on : Bool) (name : ByteArray) : FI (adoptL on name S).1.T (adoptL on name S).1.l (adoptL on name S).1.ent ∧ Mor S.T (adoptL on name S).1.T := by
  unfold adoptL
  split
  · exact ⟨h.sub (List.dropLast_sublist _) (List.Sublist.refl _), Mor.refl _⟩
  · exact adoptR_fi on name 8 0 S h
theorem restR_fi (on : Bool) : ∀ (r i : Nat) (S : AS), FI S.T S.l S.ent → 1 ≤ S.T.nodes.length → FI (restR on r i S).1.T (restR on r i S).1.l (restR on r i S).1.ent ∧ Mor S.T (restR on r i S).1.T
  | 0, _, S, h, _ => ⟨h, Mor.refl _⟩
  | r + 1, i, S, h, h1 => by
    rw [restR]
    have hi := h.insert h1 on (spaceQ S.T (S.ent.getD i 0)) (nameQ S.T (S.ent.getD i 0)) (attrsQ S.T (S.ent.getD i 0))
    have hm := insertL_mor S.T S.l on (spaceQ S.T (S.ent.getD i 0)) (nameQ S.T (S.ent.getD i 0)) (attrsQ S.T (S.ent.getD i 0))
    split
    · rename_i he
      by_cases hmm : (S.T.nodes.length : Int) - 1 < S.T.most
      · obtain ⟨q1, q2, q3⟩ := insertL_yes hmm S.l on (spaceQ S.T (S.ent.getD i 0)) (nameQ S.T (S.ent.getD i 0)) (attrsQ S.T (S.ent.getD i 0))
        have hnew := insertL_new (l := S.l) (on := on) (sp := spaceQ S.T (S.ent.getD i 0)) (nm := nameQ S.T (S.ent.getD i 0)) (at' := attrsQ S.T (S.ent.getD i 0)) h1 hmm
        have hn : (insertL S.T S.l on (spaceQ S.T (S.ent.getD i 0)) (nameQ S.T (S.ent.getD i 0)) (attrsQ S.T (S.ent.getD i 0))).2.2.1 = S.T.nodes.length := congrArg Prod.fst q2
        rw [← hn] at hnew
        have h3 := restR_fi on r (i + 1) ⟨(insertL S.T S.l on (spaceQ S.T (S.ent.getD i 0)) (nameQ S.T (S.ent.getD i 0)) (attrsQ S.T (S.ent.getD i 0))).1, (insertL S.T S.l on (spaceQ S.T (S.ent.getD i 0)) (nameQ S.T (S.ent.getD i 0)) (attrsQ S.T (S.ent.getD i 0))).2.1, S.ent.set i (insertL S.T S.l on (spaceQ S.T (S.ent.getD i 0)) (nameQ S.T (S.ent.getD i 0)) (attrsQ S.T (S.ent.getD i 0))).2.2.1⟩ (hi.eset hnew (h.fresh hn).2 i) (Nat.le_trans h1 hm.1)
        exact ⟨h3.1, hm.trans h3.2⟩
      · rw [insertL_no hmm] at he
        cases he
    · exact ⟨hi, hm⟩
theorem restL_fi {S : AS} (h : FI S.T S.l S.ent) (h1 : 1 ≤ S.T.nodes.length) (on : Bool) : FI (restL on S).1.T (restL on S).1.l (restL on S).1.ent ∧ Mor S.T (restL on S).1.T := restR_fi on _ _ S h h1
end Go.Proofs.YtclflmjpdglgiaaGreat
