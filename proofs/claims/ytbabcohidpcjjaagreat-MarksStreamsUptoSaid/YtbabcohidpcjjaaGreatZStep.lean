import Derived.Test.YtbabcohidpcjjaaGreatZSpec
import Derived.Test.YtbabcohidpcjjaaGreatZMkTag
import Derived.Test.YtbabcohidpcjjaaGreatZMkT
import Derived.Test.YtbabcohidpcjjaaGreatZMkMid
import Derived.Test.YtbabcohidpcjjaaGreatZMkBase
/-
  Each step of marks' machine leaves less to do: plain Lean over XMkSpec, no Go.
-/
namespace Go.Proofs.YtbabcohidpcjjaaGreat
open Mem

theorem look_len {m : MkM} {s : Str} : (lookF m s = 3 → 2 ≤ s.length) ∧ (lookF m s = 4 → 3 ≤ s.length) ∧ (lookF m s = 5 → 4 ≤ s.length) ∧ (lookF m s = 7 → 9 ≤ s.length) := by
  have hends : ∀ k, endsF m s = k → (k = 3 → 2 ≤ s.length) ∧ (k = 4 → False) ∧ (k = 5 → False) ∧ (k = 7 → False) := fun k hk => by
    unfold endsF at hk
    have hu : unlessF m.closed 0 = 0 ∨ unlessF m.closed 0 = 1 := unless_two m.closed 0 (.inl rfl)
    split at hk
    · refine ⟨fun h => ?_, fun h => ?_, fun h => ?_, fun h => ?_⟩ <;> (rcases hu with e | e <;> rw [e] at hk <;> omega)
    · split at hk
      · rename_i hw
        have := (folds_whole hw.1).1
        simp only [List.length_append, List.length_cons, List.length_nil] at this
        exact ⟨fun _ => by omega, fun h => by omega, fun h => by omega, fun h => by omega⟩
      · exact ⟨fun h => by omega, fun h => by omega, fun h => by omega, fun h => by omega⟩
  have hdecl : ∀ k, declF m s = k → (k = 3 → False) ∧ (k = 4 → False) ∧ (k = 5 → 4 ≤ s.length) ∧ (k = 7 → 9 ≤ s.length) := fun k hk => by
    unfold declF at hk
    have hu : unlessF m.closed 8 = 8 ∨ unlessF m.closed 8 = 1 := unless_two m.closed 8 (.inr rfl)
    split at hk
    · rename_i hw
      have := (folds_whole hw).1
      have h4 : comW.length = 4 := rfl
      exact ⟨fun h => by omega, fun h => by omega, fun _ => by omega, fun h => by omega⟩
    · split at hk
      · exact ⟨fun h => by omega, fun h => by omega, fun h => by omega, fun h => by omega⟩
      · split at hk
        · rename_i hp
          have := (List.isPrefixOf_iff_prefix.1 hp.1).length_le
          have h9 : cdataW.length = 9 := rfl
          exact ⟨fun h => by omega, fun h => by omega, fun h => by omega, fun _ => by omega⟩
        · split at hk
          · refine ⟨fun h => ?_, fun h => ?_, fun h => ?_, fun h => ?_⟩ <;> (rcases hu with e | e <;> rw [e] at hk <;> omega)
          · exact ⟨fun h => by omega, fun h => by omega, fun h => by omega, fun h => by omega⟩
  have hu0 : unlessF m.closed 0 = 0 ∨ unlessF m.closed 0 = 1 := unless_two m.closed 0 (.inl rfl)
  obtain ⟨k, hk⟩ : ∃ k, lookF m s = k := ⟨_, rfl⟩
  rw [hk]
  unfold lookF at hk
  split at hk
  · obtain ⟨h1, h2, h3, h4⟩ := hends k hk
    exact ⟨h1, fun h => (h2 h).elim, fun h => (h3 h).elim, fun h => (h4 h).elim⟩
  · split at hk
    · rename_i c r
      split at hk
      · exact ⟨fun h => by omega, fun h => by omega, fun h => by omega, fun h => by omega⟩
      · split at hk
        · exact ⟨fun h => by omega, fun h => by omega, fun h => by omega, fun h => by omega⟩
        · split at hk
          · obtain ⟨h1, h2, h3, h4⟩ := hdecl k hk
            exact ⟨fun h => (h1 h).elim, fun h => (h2 h).elim, h3, h4⟩
          · split at hk
            · exact ⟨fun h => by omega, fun h => by omega, fun h => by omega, fun h => by omega⟩
            · split at hk
              · refine ⟨fun h => ?_, fun h => ?_, fun h => ?_, fun h => ?_⟩ <;> (rcases hu0 with e | e <;> rw [e] at hk <;> omega)
              · simp only [List.length_cons]
                split at hk
                · exact ⟨fun _ => by omega, fun h => by omega, fun h => by omega, fun h => by omega⟩
                · split at hk
                  · exact ⟨fun h => by omega, fun _ => by omega, fun h => by omega, fun h => by omega⟩
                  · exact ⟨fun h => by omega, fun h => by omega, fun h => by omega, fun h => by omega⟩
    · refine ⟨fun h => ?_, fun h => ?_, fun h => ?_, fun h => ?_⟩ <;> (rcases hu0 with e | e <;> rw [e] at hk <;> omega)

theorem textF_less (m : MkM) (s : Str) (h : (textF m s).1 ≠ []) : (textF m s).2.1.length < s.length := by
  cases s with
  | nil => rw [textF] at h; exact absurd rfl h
  | cons c r =>
    have hs : ∀ k, (textF m (r.drop k)).2.1.length < (c :: r).length := fun k => by
      have h1 := (textF_spec m _ (r.drop k) (Nat.le_refl _)).1.length_le
      rw [List.length_drop] at h1
      rw [List.length_cons]
      omega
    rw [textF] at h ⊢
    split at h
    · rename_i h60
      rw [if_pos h60]
      split at h
      · rename_i h0; rw [if_pos h0]; exact hs 0
      · exact absurd rfl h
    · rename_i h60
      rw [if_neg h60]
      split at h
      · rename_i h38
        rw [if_pos h38]
        split at h
        · exact absurd rfl h
        · rename_i hw; rw [if_neg hw]; exact hs _
      · rename_i h38; rw [if_neg h38]; exact hs 0
theorem tagsF_len : ∀ (n : Nat) (al : List (Str × Str)) (r : Str), r.length ≤ n → ∀ al' sl r', tagsF al r = some (al', sl, r') → r'.length < r.length := by
  intro n
  induction n with
  | zero =>
    intro al r hn al' sl r' h
    obtain rfl : r = [] := List.eq_nil_of_length_eq_zero (by omega)
    rw [tagsF] at h
    cases h
  | succ n ih =>
    intro al r hn al' sl r' h
    rw [tagsF] at h
    have h0 := dropWhile_len gapB r
    split at h
    · cases h
    · rename_i c r1 he
      rw [he] at h0
      simp only [List.length_cons] at h0
      split at h
      · simp only [Option.some.injEq, Prod.mk.injEq] at h
        rw [← h.2.2]; omega
      · split at h
        · cases h
        · split at h
          · have := ih _ _ (by omega) _ _ _ h
            omega
          · cases h
theorem parseF_pos {s : Str} {e : Bool} (h : ¬ (parseF s e).2.1 < 0) : 1 ≤ (parseF s e).2.1 ∧ (parseF s e).2.1 ≤ s.length := by
  unfold parseF at h ⊢
  cases hu : untilF signT (s.drop (if e then 2 else 1)) with
  | none => simp only [hu] at h; exact absurd (by decide : (-1 : Int) < 0) h
  | some q =>
    obtain ⟨nm, r⟩ := q
    simp only [hu] at h ⊢
    have hl := (untilF_len hu).1
    rw [List.length_drop] at hl
    cases ht : tagsF [] r with
    | none => simp only [ht] at h; exact absurd (by decide : (-1 : Int) < 0) h
    | some q =>
      obtain ⟨al, sl, r2⟩ := q
      have h2 := tagsF_len _ _ _ (Nat.le_refl _) _ _ _ ht
      simp only [ht] at h ⊢
      have key : 1 ≤ (s.length : Int) - (r2.length : Int) ∧ (s.length : Int) - (r2.length : Int) ≤ s.length := by omega
      cases e
      · simp only [Bool.false_eq_true, if_false] at h ⊢
        split <;> exact key
      · exact key
theorem tagF_told {m : MkM} {e : Bool} (h : (tagF m e).2.1 = true) : (tagF m e).2.2.2.pass = m.pass ∧ (tagF m e).2.2.2.buf.length < m.buf.length := by
  unfold tagF at h ⊢
  simp only at h ⊢
  obtain ⟨er, her⟩ : ∃ er, er = if (parseF (m.buf.take 2049) e).2.1 > 2048 ∨ ((parseF (m.buf.take 2049) e).2.1 < 0 ∧ 2048 < (m.buf.take 2049).length) then (41 : Int) else (parseF (m.buf.take 2049) e).2.2 := ⟨_, rfl⟩
  rw [← her] at h ⊢
  by_cases h0 : er = 0
  · rw [if_neg (fun hh => hh h0)] at h ⊢
    by_cases hn : (parseF (m.buf.take 2049) e).2.1 < 0
    · rw [if_pos hn] at h; cases h
    · rw [if_neg hn]
      obtain ⟨p1, p2⟩ := parseF_pos hn
      rw [List.length_take] at p2
      obtain ⟨N, hN⟩ := Int.eq_ofNat_of_zero_le (by omega : 0 ≤ (parseF (m.buf.take 2049) e).2.1)
      rw [hN] at p1 p2 ⊢
      have hd : (m.buf.drop N).length < m.buf.length := by rw [List.length_drop]; omega
      cases e
      · exact ⟨rfl, hd⟩
      · exact ⟨rfl, hd⟩
  · rw [if_pos h0] at h; cases h
theorem tagF_loud (m : MkM) (e : Bool) : (tagF m e).2.1 = true ∨ (tagF m e).2.2.1 = true := by
  unfold tagF
  simp only
  obtain ⟨er, her⟩ : ∃ er, er = if (parseF (m.buf.take 2049) e).2.1 > 2048 ∨ ((parseF (m.buf.take 2049) e).2.1 < 0 ∧ 2048 < (m.buf.take 2049).length) then (41 : Int) else (parseF (m.buf.take 2049) e).2.2 := ⟨_, rfl⟩
  rw [← her]
  by_cases h0 : er = 0
  · rw [if_neg (fun hh => hh h0)]
    by_cases hn : (parseF (m.buf.take 2049) e).2.1 < 0
    · rw [if_pos hn]; exact .inr rfl
    · rw [if_neg hn]; exact .inl rfl
  · rw [if_pos h0]; exact .inr rfl
theorem doM_le (m : MkM) : doM m ≤ 2 * m.buf.length + 1 := by
  unfold doM
  repeat' split
  all_goals first | omega | (rename_i h; rw [h]; simp)
theorem doM_zero {m : MkM} (h : m.pass = 0) : doM m = 2 * m.buf.length := by unfold doM; rw [if_pos h]
theorem doneF_less {m : MkM} {n : Nat} (hp : m.pass ≠ 0) (h2 : m.pass = 2 → m.buf ≠ [] → 1 ≤ n) : doM (doneF m n).2.2.2 < doM m := by
  have e : doM (doneF m n).2.2.2 = 2 * (m.buf.drop n).length := doM_zero rfl
  rw [e, List.length_drop]
  unfold doM
  rw [if_neg hp]
  split
  · rename_i h
    split
    · rename_i hb; rw [hb]; simp
    · rename_i hb
      have := h2 h hb
      have := List.length_pos_iff.2 hb
      omega
  · omega
/-- what a step leaves to do, where it does not stop -/
theorem one_less (m : MkM) (h : (oneF m).2.1 = true ∨ (oneF m).2.2.1 = false) : doM (oneF m).2.2.2 < doM m := by
  unfold oneF at h ⊢
  by_cases h0 : m.pass = 0
  · rw [if_pos h0] at h ⊢
    rw [doM_zero h0]
    obtain ⟨hsuf, hkind⟩ := textF_spec m _ m.buf (Nat.le_refl _)
    have hlen := hsuf.length_le
    have hless := textF_less m m.buf
    unfold stepF at h ⊢
    simp only at h ⊢
    generalize textF m m.buf = p at *
    obtain ⟨t, buf, is⟩ := p
    simp only at h hsuf hkind hlen hless ⊢
    have hk1 : is = 1 ∨ (1 ≤ buf.length ∧ (is = 4 → 3 ≤ buf.length) ∧ (is = 5 → 4 ≤ buf.length) ∧ (is = 7 → 9 ≤ buf.length)) := by
      rcases hkind with h | ⟨r, h1, h2, -⟩
      · exact .inl h
      · obtain ⟨-, l4, l5, l7⟩ := look_len (m := m) (s := 60 :: r)
        rw [h2] at l4 l5 l7
        rw [h1]
        exact .inr ⟨by simp, l4, l5, l7⟩
    by_cases ht : t = []
    · rw [if_neg (fun hh => hh ht)] at h ⊢
      by_cases i2 : is = 2
      · rw [if_pos i2] at h ⊢
        rcases tagF_loud { m with buf := buf } false with ht | ht
        · have := tagF_told ht
          rw [doM_zero (this.1.trans h0)]
          have h3 : (tagF { m with buf := buf } false).2.2.2.buf.length < buf.length := this.2
          omega
        · rcases h with h | h
          · have := tagF_told h
            rw [doM_zero (this.1.trans h0)]
            have h3 : (tagF { m with buf := buf } false).2.2.2.buf.length < buf.length := this.2
            omega
          · rw [ht] at h; cases h
      · rw [if_neg i2] at h ⊢
        by_cases i3 : is = 3
        · rw [if_pos i3] at h ⊢
          rcases tagF_loud { m with buf := buf } true with ht | ht
          · have := tagF_told ht
            rw [doM_zero (this.1.trans h0)]
            have h3 : (tagF { m with buf := buf } true).2.2.2.buf.length < buf.length := this.2
            omega
          · rcases h with h | h
            · have := tagF_told h
              rw [doM_zero (this.1.trans h0)]
              have h3 : (tagF { m with buf := buf } true).2.2.2.buf.length < buf.length := this.2
              omega
            · rw [ht] at h; cases h
        · rw [if_neg i3] at h ⊢
          by_cases i4 : is = 4
          · rw [if_pos i4]
            have hb := (hk1.resolve_left (by omega)).2.1 i4
            rw [doM_zero (by exact h0)]
            show 2 * (buf.drop 3).length < _
            rw [List.length_drop]; omega
          · rw [if_neg i4] at h ⊢
            by_cases i5 : is = 5
            · rw [if_pos i5]
              have hb := (hk1.resolve_left (by omega)).2.2.1 i5
              refine Nat.lt_of_le_of_lt (doM_le _) ?_
              show 2 * (buf.drop 4).length + 1 < _
              rw [List.length_drop]; omega
            · rw [if_neg i5] at h ⊢
              by_cases i6 : is = 6
              · rw [if_pos i6]
                have hb := (hk1.resolve_left (by omega)).1
                have hne : buf ≠ [] := List.length_pos_iff.1 hb
                show (if (2 : Int) = 0 then _ else if (2 : Int) = 2 then (if buf = [] then 1 else 2 * buf.length - 1) else _) < _
                rw [if_neg (by decide), if_pos rfl, if_neg hne]; omega
              · rw [if_neg i6] at h ⊢
                by_cases i7 : is = 7
                · rw [if_pos i7]
                  have hb := (hk1.resolve_left (by omega)).2.2.2 i7
                  refine Nat.lt_of_le_of_lt (doM_le _) ?_
                  show 2 * (buf.drop 9).length + 1 < _
                  rw [List.length_drop]; omega
                · rw [if_neg i7] at h ⊢
                  by_cases i8 : is = 8
                  · rw [if_pos i8]
                    have hb := (hk1.resolve_left (by omega)).1
                    have hne : buf ≠ [] := List.length_pos_iff.1 hb
                    show (if (2 : Int) = 0 then _ else if (2 : Int) = 2 then (if buf = [] then 1 else 2 * buf.length - 1) else _) < _
                    rw [if_neg (by decide), if_pos rfl, if_neg hne]; omega
                  · rw [if_neg i8] at h
                    rcases h with h | h <;> cases h
    · rw [if_pos ht]
      rw [doM_zero (by exact h0)]
      show 2 * buf.length < _
      have := hless ht
      omega
  · rw [if_neg h0] at h ⊢
    unfold passF at h ⊢
    by_cases p1 : m.pass = 1
    · rw [if_pos p1] at h ⊢
      have hd : ∀ n, doM (doneF m n).2.2.2 < doM m := fun n => doneF_less h0 fun e => by omega
      have hlater : ∀ m' : MkM, m'.pass = 1 → m'.buf = m.buf → ((comLater m').2.1 = true ∨ (comLater m').2.2.1 = false) → doM (comLater m').2.2.2 < doM m := fun m' hp hb hh => by
        have hdm : doM m' = doM m := by unfold doM; rw [hp, hb, p1]
        have hd : ∀ n, doM (doneF m' n).2.2.2 < doM m := fun n => by rw [← hdm]; exact doneF_less (by omega) fun e => by omega
        unfold comLater at hh ⊢
        simp only at hh ⊢
        split
        · exact hd _
        · rename_i c1
          rw [if_neg c1] at hh
          split
          · exact hd _
          · rename_i c2
            rw [if_neg c2] at hh
            split
            · exact hd _
            · rename_i c3
              rw [if_neg c3] at hh
              rcases hh with hh | hh <;> cases hh
      unfold comF at h ⊢
      split
      · rename_i hf
        rw [if_pos hf] at h
        split
        · exact hd _
        · rename_i c1
          rw [if_neg c1] at h
          split
          · exact hd _
          · rename_i c2
            rw [if_neg c2] at h
            split
            · rename_i c3
              rw [if_pos c3] at h
              rcases h with h | h <;> cases h
            · rename_i c3
              rw [if_neg c3] at h
              exact hlater _ p1 rfl h
      · rename_i hf
        rw [if_neg hf] at h
        exact hlater m p1 rfl h
    · rw [if_neg p1] at h ⊢
      by_cases p2 : m.pass = 2
      · rw [if_pos p2] at h ⊢
        split
        · exact doneF_less h0 fun _ _ => by omega
        · rename_i c1
          rw [if_neg c1] at h
          split
          · exact doneF_less h0 fun _ hb => List.length_pos_iff.2 hb
          · rename_i c2
            rw [if_neg c2] at h
            rcases h with h | h <;> cases h
      · rw [if_neg p2] at h ⊢
        have hdm : doM m = 2 * m.buf.length + 1 := by unfold doM; rw [if_neg h0, if_neg p2]
        rw [hdm]
        unfold cdF at h ⊢
        simp only at h ⊢
        split
        · rw [doM_zero rfl]
          show 2 * (m.buf.drop _).length < _
          rw [List.length_drop]; omega
        · rename_i c1
          rw [if_neg c1] at h
          split
          · rw [doM_zero rfl]
            show 2 * ([] : Str).length < _
            simp
          · rename_i c2
            rw [if_neg c2] at h
            rcases h with h | h
            · have hne : m.buf.take (m.buf.length - 2) ≠ [] := by simpa using h
              have hl : 2 < m.buf.length := by
                rcases Nat.lt_or_ge 2 m.buf.length with hh | hh
                · exact hh
                · rw [show m.buf.length - 2 = 0 from by omega] at hne
                  exact absurd rfl hne
              refine Nat.lt_of_le_of_lt (doM_le _) ?_
              show 2 * (m.buf.drop (m.buf.length - 2)).length + 1 < _
              rw [List.length_drop]; omega
            · have h3 : decide (m.pass ≠ 0) = false := h
              exact absurd h0 (by simpa using h3)
/-- reading: a step -/
theorem readF_err {m : MkM} (h : m.err ≠ 0) : readF m = (none, m) := by rw [readF, if_pos h]
theorem readF_told {m : MkM} (h : m.err = 0) (ht : (oneF m).2.1 = true) : readF m = (some (oneF m).1, (oneF m).2.2.2) := by rw [readF, if_neg (fun hh => hh h), if_pos ht]
theorem readF_stop {m : MkM} (h : m.err = 0) (ht : (oneF m).2.1 = false) (hs : (oneF m).2.2.1 = true) : readF m = (none, (oneF m).2.2.2) := by
  rw [readF, if_neg (fun hh => hh h), if_neg (by rw [ht]; simp), if_pos hs]
theorem readF_go {m : MkM} (h : m.err = 0) (ht : (oneF m).2.1 = false) (hs : (oneF m).2.2.1 = false) : readF m = readF (oneF m).2.2.2 := by
  conv => lhs; rw [readF, if_neg (fun hh => hh h), if_neg (by rw [ht]; simp), if_neg (by rw [hs]; simp), if_pos (one_less m (.inr hs))]
theorem read_less : ∀ (n : Nat) (m : MkM), doM m ≤ n → ∀ x m1, readF m = (some x, m1) → doM m1 < doM m := by
  intro n
  induction n using Nat.strongRecOn with
  | _ n ih =>
    intro m hm x m1 h
    by_cases he : m.err = 0
    · cases ht : (oneF m).2.1
      · cases hs : (oneF m).2.2.1
        · rw [readF_go he ht hs] at h
          have hl := one_less m (.inr hs)
          have := ih (doM (oneF m).2.2.2) (by omega) _ (Nat.le_refl _) x m1 h
          omega
        · rw [readF_stop he ht hs] at h; cases h
      · rw [readF_told he ht] at h
        cases h
        exact one_less m (.inl ht)
    · rw [readF_err he] at h; cases h
theorem doM_set (m : MkM) (k : Int) (nm : Str) : doM (setF m k nm) = doM m := by unfold setF; split <;> rfl
theorem doM_switch (m : MkM) (x : MarkD) : doM (switchF m x) = doM m := by
  unfold switchF
  repeat' split
  all_goals first | rfl | exact doM_set _ _ _
theorem drainF_none {m m1 : MkM} (h : readF m = (none, m1)) : drainF m = ([], m1) := by rw [drainF, h]
theorem drainF_some {m m1 : MkM} {x : MarkD} (h : readF m = (some x, m1)) : drainF m = (x :: (drainF (switchF m1 x)).1, (drainF (switchF m1 x)).2) := by
  have hl := read_less _ m (Nat.le_refl _) x m1 h
  rw [drainF, h]
  simp only
  rw [if_pos (by rw [doM_switch]; exact hl)]
end Go.Proofs.YtbabcohidpcjjaaGreat

/-
  Contract: marks' machine: step: what stands at the place.
-/
namespace Go.Proofs.YtbabcohidpcjjaaGreat
open Go.RowKit Mem

set_option maxRecDepth 100000 in
set_option maxHeartbeats 4000000 in
theorem step_any (m : MkM) (b : Nat) (w : World) (hr : Row w b (machV m)) (hl : m.buf.length ≤ 4294967280) (hn : m.name.length ≤ 4294967280) :
    Calls Tryz.prog 42 #[.pointer (some ⟨b, 0, none⟩)] w fun r w' => OutAt w.heap.size (stepF m) r w' ∧ Row w' b (machV (stepF m).2.2.2) ∧ Keeps (Only b) w w' := by
  have hbw := hr.lt
  have hne : w.heap.size ≠ b := by omega
  obtain ⟨o, ho⟩ : ∃ o, o = stepF m := ⟨_, rfl⟩
  rw [← ho]
  unfold stepF at ho
  obtain ⟨hsuf, hkind⟩ := textF_spec m _ m.buf (Nat.le_refl _)
  have hlen := hsuf.length_le
  have HRA : Hid (Row (w.alloc (.cells zeroMark 46)) b (machV m)) := hr.kept (heap_alloc_old w _ hbw)
  have HTX := Lib.hid (text_any m b (w.alloc (.cells zeroMark 46)) HRA.out hl hn)
  generalize textF m m.buf = p at *
  obtain ⟨t, buf, is⟩ := p
  simp only at ho hsuf hkind hlen HTX
  obtain ⟨m1, hm1⟩ : ∃ m1, m1 = ({ m with buf := buf } : MkM) := ⟨_, rfl⟩
  have hb1 : m1.buf = buf := by rw [hm1]
  rw [← hm1] at ho HTX
  have hk1 : is = 1 ∨ ((is = 2 → 1 ≤ buf.length) ∧ (is = 3 → 2 ≤ buf.length) ∧ (is = 4 → 3 ≤ buf.length) ∧ (is = 5 → 4 ≤ buf.length) ∧ (is = 7 → 9 ≤ buf.length)) := by
    rcases hkind with h | ⟨r, h1, h2, -⟩
    · exact .inl h
    · obtain ⟨l3, l4, l5, l7⟩ := look_len (m := m) (s := 60 :: r)
      rw [h2] at l3 l4 l5 l7
      rw [h1]
      exact .inr ⟨fun _ => by simp, l3, l4, l5, l7⟩
  clear hkind hsuf
  go_enter Tryz.func42, Tryz.ntmps42
  go_wp2_with fail
  refine HTX.out.mono ?_
  rintro r W1 ⟨rfl, r1, k1⟩
  have HZ1 := Lib.hid (only_zero (heap_alloc_new w (.cells zeroMark 46)) k1 (by simp) hne)
  have HK1 := Lib.hid (keeps_alloc k1)
  have HR1 := Lib.hid r1
  have hz1 : w.heap.size < W1.heap.size := Nat.lt_of_lt_of_le (by simp) k1.size
  obtain ⟨⟨q0, q1, q2, q3, q4⟩, f0, f1, f2, f3, f4⟩ := res_cells HZ1.out
  have hc0 := (mach_row r1).1
  rw [hb1] at hc0
  obtain ⟨g0, -, -, -, -, -, g6, g7, g8, -⟩ := mach_free r1
  obtain ⟨-, -, -, -, -, -, c6, c7, c8, -⟩ := mach_row r1
  have hbz : (strB buf).size = buf.length := strB_size _
  clear k1 r1
  by_cases ht : t = []
  · subst ht
    rw [if_neg (fun h => h rfl)] at ho
    have hte : (strB ([] : Str)).toList.isEmpty = true := by rw [toList_strB]; rfl
    have h1 : is = 1 → ¬ (is = 2) := fun h => by omega
    clear h1
    by_cases i2 : is = 2
    · subst i2
      rw [if_pos rfl] at ho
      have hl2 := (hk1.resolve_left (by decide)).1 rfl
      clear hk1
      have HTG := Lib.hid (tag_any m1 b false W1 HR1.out (by rw [hb1]; omega) (by rw [hb1]; simp; omega))
      have HO := Lib.hid ho
      clear ho hm1
      dsimp only
      go_wp2_with fail
      refine HTG.out.mono ?_
      rintro r W2 ⟨⟨sl, rfl, hown⟩, r2, k2⟩
      obtain ⟨a, c, hsl, -⟩ := own_at hown
      subst hsl
      have HZ2 := Lib.hid (only_zero HZ1.out k2 hz1 hne)
      have HK2 := Lib.hid (HK1.out.trans k2)
      have HR2 := Lib.hid r2
      have HOW := Lib.hid hown
      clear q0 q1 q2 q3 q4 f0 f1 f2 f3 f4 k2 r2 hown
      obtain ⟨⟨q0, q1, q2, q3, q4⟩, f0, f1, f2, f3, f4⟩ := res_cells HZ2.out
      dsimp only [markV]
      go_wp2_with fail
      refine bodyPost_ret (results_mark rfl _ _ w.heap.size _ _ _ _ rfl (put5_at HZ2.out _ _ _ _ _) Tryz.underlying46 rfl mark_info) rfl ?_
      rw [HO.out]
      exact ⟨⟨.slice a (tagF m1 false).1.attrs.length c, ret_eq rfl, own_base (own_put5 HOW.out hz1 _ _ _ _ _) (Nat.le_of_lt hz1)⟩, put5_row HR2.out (fun e => hne e.symm) _ _ _ _ _, put5_keeps HK2.out (Nat.le_refl _) _ _ _ _ _⟩
    rw [if_neg i2] at ho
    have n2 : (is == 2) = false := beq_eq_false_iff_ne.2 i2
    by_cases i3 : is = 3
    · subst i3
      rw [if_pos rfl] at ho
      have hl3 := (hk1.resolve_left (by decide)).2.1 rfl
      clear hk1
      have HTG := Lib.hid (tag_any m1 b true W1 HR1.out (by rw [hb1]; omega) (by rw [hb1]; simp; omega))
      have HO := Lib.hid ho
      clear ho hm1
      dsimp only
      go_wp2_with fail
      refine HTG.out.mono ?_
      rintro r W2 ⟨⟨sl, rfl, hown⟩, r2, k2⟩
      obtain ⟨a, c, hsl, -⟩ := own_at hown
      subst hsl
      have HZ2 := Lib.hid (only_zero HZ1.out k2 hz1 hne)
      have HK2 := Lib.hid (HK1.out.trans k2)
      have HR2 := Lib.hid r2
      have HOW := Lib.hid hown
      clear q0 q1 q2 q3 q4 f0 f1 f2 f3 f4 k2 r2 hown
      obtain ⟨⟨q0, q1, q2, q3, q4⟩, f0, f1, f2, f3, f4⟩ := res_cells HZ2.out
      dsimp only [markV]
      go_wp2_with fail
      refine bodyPost_ret (results_mark rfl _ _ w.heap.size _ _ _ _ rfl (put5_at HZ2.out _ _ _ _ _) Tryz.underlying46 rfl mark_info) rfl ?_
      rw [HO.out]
      exact ⟨⟨.slice a (tagF m1 true).1.attrs.length c, ret_eq rfl, own_base (own_put5 HOW.out hz1 _ _ _ _ _) (Nat.le_of_lt hz1)⟩, put5_row HR2.out (fun e => hne e.symm) _ _ _ _ _, put5_keeps HK2.out (Nat.le_refl _) _ _ _ _ _⟩
    rw [if_neg i3] at ho
    have n3 : (is == 3) = false := beq_eq_false_iff_ne.2 i3
    by_cases i4 : is = 4
    · subst i4
      rw [if_pos rfl] at ho
      have hl4 := (hk1.resolve_left (by decide)).2.2.1 rfl
      have e3 := strB_ext buf 3
      have hi3 : (3 : Int) ≤ (buf.length : Int) := by omega
      have HO := Lib.hid ho
      clear ho hk1
      dsimp only
      go_wp2_with fail
      refine bodyPost_ret (results_mark rfl _ _ w.heap.size _ _ _ _ rfl (put5_at (res_set HZ1.out hne) _ _ _ _ _) Tryz.underlying46 rfl mark_info) rfl ?_
      rw [HO.out]
      rw [hm1] at HR1
      exact ⟨⟨.slice none 0 0, ret_eq rfl, World.ownsRow_nil _ _ _ _⟩, put5_row (HR1.out.set 0 (.string (strB (buf.drop 3)))) (fun e => hne e.symm) _ _ _ _ _, put5_keeps (keep_set HK1.out _) (Nat.le_refl _) _ _ _ _ _⟩
    rw [if_neg i4] at ho
    have n4 : (is == 4) = false := beq_eq_false_iff_ne.2 i4
    by_cases i5 : is = 5
    · subst i5
      rw [if_pos rfl] at ho
      have hl5 := (hk1.resolve_left (by decide)).2.2.2.1 rfl
      have e4 := strB_ext buf 4
      have hi4 : (4 : Int) ≤ (buf.length : Int) := by omega
      have HO := Lib.hid ho
      clear ho hk1
      dsimp only
      go_wp2_with fail
      go_region
      go_wp2_with fail
      refine bodyPost_ret (results_mark rfl _ _ w.heap.size _ _ _ _ rfl (at_drew (put5_at (res_set (res_set (res_set (res_set HZ1.out hne) hne) hne) hne) _ _ _ _ _)) Tryz.underlying46 rfl mark_info) rfl ?_
      rw [HO.out]
      rw [hm1] at HR1
      exact ⟨⟨.slice none 0 0, ret_eq rfl, World.ownsRow_nil _ _ _ _⟩, row_drew (put5_row ((((HR1.out.set 6 (.int .i64 1)).set 7 (.int .i64 4)).set 8 (.bool true)).set 0 (.string (strB (buf.drop 4)))) (fun e => hne e.symm) _ _ _ _ _), (put5_keeps (keep_set (keep_set (keep_set (keep_set HK1.out _) _) _) _) (Nat.le_refl _) _ _ _ _ _).drew⟩
    rw [if_neg i5] at ho
    have n5 : (is == 5) = false := beq_eq_false_iff_ne.2 i5
    by_cases i6 : is = 6
    · subst i6
      rw [if_pos rfl] at ho
      have HO := Lib.hid ho
      clear ho hk1
      dsimp only
      go_wp2_with fail
      refine bodyPost_ret (results_mark rfl _ _ w.heap.size _ _ _ _ rfl (put5_at (res_set (res_set HZ1.out hne) hne) _ _ _ _ _) Tryz.underlying46 rfl mark_info) rfl ?_
      rw [HO.out]
      rw [hm1] at HR1
      exact ⟨⟨.slice none 0 0, ret_eq rfl, World.ownsRow_nil _ _ _ _⟩, put5_row ((HR1.out.set 6 (.int .i64 2)).set 7 (.int .i64 5)) (fun e => hne e.symm) _ _ _ _ _, put5_keeps (keep_set (keep_set HK1.out _) _) (Nat.le_refl _) _ _ _ _ _⟩
    rw [if_neg i6] at ho
    have n6 : (is == 6) = false := beq_eq_false_iff_ne.2 i6
    by_cases i7 : is = 7
    · subst i7
      rw [if_pos rfl] at ho
      have hl7 := (hk1.resolve_left (by decide)).2.2.2.2 rfl
      have e9 := strB_ext buf 9
      have hi9 : (9 : Int) ≤ (buf.length : Int) := by omega
      have HO := Lib.hid ho
      clear ho hk1
      dsimp only
      go_wp2_with fail
      go_region
      go_wp2_with fail
      refine bodyPost_ret (results_mark rfl _ _ w.heap.size _ _ _ _ rfl (at_drew (put5_at (res_set (res_set HZ1.out hne) hne) _ _ _ _ _)) Tryz.underlying46 rfl mark_info) rfl ?_
      rw [HO.out]
      rw [hm1] at HR1
      exact ⟨⟨.slice none 0 0, ret_eq rfl, World.ownsRow_nil _ _ _ _⟩, row_drew (put5_row ((HR1.out.set 6 (.int .i64 3)).set 0 (.string (strB (buf.drop 9)))) (fun e => hne e.symm) _ _ _ _ _), (put5_keeps (keep_set (keep_set HK1.out _) _) (Nat.le_refl _) _ _ _ _ _).drew⟩
    rw [if_neg i7] at ho
    have n7 : (is == 7) = false := beq_eq_false_iff_ne.2 i7
    by_cases i8 : is = 8
    · subst i8
      rw [if_pos rfl] at ho
      have HO := Lib.hid ho
      clear ho hk1
      dsimp only
      go_wp2_with fail
      refine bodyPost_ret (results_mark rfl _ _ w.heap.size _ _ _ _ rfl (put5_at (res_set (res_set HZ1.out hne) hne) _ _ _ _ _) Tryz.underlying46 rfl mark_info) rfl ?_
      rw [HO.out]
      rw [hm1] at HR1
      exact ⟨⟨.slice none 0 0, ret_eq rfl, World.ownsRow_nil _ _ _ _⟩, put5_row ((HR1.out.set 6 (.int .i64 2)).set 7 (.int .i64 4)) (fun e => hne e.symm) _ _ _ _ _, put5_keeps (keep_set (keep_set HK1.out _) _) (Nat.le_refl _) _ _ _ _ _⟩
    rw [if_neg i8] at ho
    have n8 : (is == 8) = false := beq_eq_false_iff_ne.2 i8
    have HO := Lib.hid ho
    clear ho hk1
    dsimp only
    go_wp2_with fail
    refine bodyPost_ret (results_mark rfl _ _ w.heap.size _ _ _ _ rfl (put5_at HZ1.out _ _ _ _ _) Tryz.underlying46 rfl mark_info) rfl ?_
    rw [HO.out]
    exact ⟨⟨.slice none 0 0, ret_eq rfl, World.ownsRow_nil _ _ _ _⟩, put5_row HR1.out (fun e => hne e.symm) _ _ _ _ _, put5_keeps HK1.out (Nat.le_refl _) _ _ _ _ _⟩
  · rw [if_pos ht] at ho
    have HO := Lib.hid ho
    have hte : (strB t).toList.isEmpty = false := by
      rw [toList_strB]
      cases t with
      | nil => exact absurd rfl ht
      | cons _ _ => rfl
    clear ho ht hk1 hm1
    dsimp only
    go_wp2_with fail
    refine bodyPost_ret (results_mark rfl _ _ w.heap.size _ _ _ _ rfl (put5_at HZ1.out _ _ _ _ _) Tryz.underlying46 rfl mark_info) rfl ?_
    rw [HO.out]
    exact ⟨⟨.slice none 0 0, ret_eq rfl, World.ownsRow_nil _ _ _ _⟩, put5_row HR1.out (fun e => hne e.symm) _ _ _ _ _, put5_keeps HK1.out (Nat.le_refl _) _ _ _ _ _⟩
end Go.Proofs.YtbabcohidpcjjaaGreat

/-
  Contract: marks' machine: read: the next mark.
-/
namespace Go.Proofs.YtbabcohidpcjjaaGreat
open Go.RowKit Mem

theorem done_kept (m : MkM) (n : Nat) : (doneF m n).2.2.2.name = m.name ∧ (doneF m n).2.2.2.buf.length ≤ m.buf.length := ⟨rfl, by show (m.buf.drop n).length ≤ _; rw [List.length_drop]; omega⟩
theorem tagF_kept (m : MkM) (e : Bool) : (tagF m e).2.2.2.name = m.name ∧ (tagF m e).2.2.2.buf.length ≤ m.buf.length := by
  unfold tagF
  simp only
  obtain ⟨er, her⟩ : ∃ er, er = if (parseF (m.buf.take 2049) e).2.1 > 2048 ∨ ((parseF (m.buf.take 2049) e).2.1 < 0 ∧ 2048 < (m.buf.take 2049).length) then (41 : Int) else (parseF (m.buf.take 2049) e).2.2 := ⟨_, rfl⟩
  rw [← her]
  by_cases h0 : er = 0
  · rw [if_neg (fun hh => hh h0)]
    by_cases hn : (parseF (m.buf.take 2049) e).2.1 < 0
    · rw [if_pos hn]
      cases m.closed
      · exact ⟨rfl, Nat.le_refl _⟩
      · exact ⟨rfl, Nat.zero_le _⟩
    · rw [if_neg hn]
      have hd : (m.buf.drop (parseF (m.buf.take 2049) e).2.1.toNat).length ≤ m.buf.length := by rw [List.length_drop]; omega
      cases e
      · exact ⟨rfl, hd⟩
      · exact ⟨rfl, hd⟩
  · rw [if_pos h0]; exact ⟨rfl, Nat.zero_le _⟩
theorem passF_kept (m : MkM) : ((passF m).2.2.2.name = m.name ∧ (passF m).2.2.2.buf.length ≤ m.buf.length) ∧ (passF m).1.attrs = [] := by
  have hd : ∀ (m : MkM) n, ((doneF m n).2.2.2.name = m.name ∧ (doneF m n).2.2.2.buf.length ≤ m.buf.length) ∧ (doneF m n).1.attrs = [] := fun m n => ⟨done_kept m n, rfl⟩
  have hdr : ∀ n, (m.buf.drop n).length ≤ m.buf.length := fun n => by rw [List.length_drop]; omega
  have hlater : ∀ m' : MkM, m'.name = m.name → m'.buf = m.buf → ((comLater m').2.2.2.name = m.name ∧ (comLater m').2.2.2.buf.length ≤ m.buf.length) ∧ (comLater m').1.attrs = [] := fun m' hn hb => by
    have hd' : ∀ n, ((doneF m' n).2.2.2.name = m.name ∧ (doneF m' n).2.2.2.buf.length ≤ m.buf.length) ∧ (doneF m' n).1.attrs = [] := fun n => by rw [← hn, ← hb]; exact hd m' n
    unfold comLater
    simp only
    split
    · exact hd' _
    · split
      · exact hd' _
      · split
        · exact hd' _
        · exact ⟨⟨hn, by show (m'.buf.drop _).length ≤ _; rw [hb]; exact hdr _⟩, rfl⟩
  unfold passF
  split
  · unfold comF
    split
    · split
      · exact hd _ _
      · split
        · exact hd _ _
        · split
          · exact ⟨⟨rfl, Nat.le_refl _⟩, rfl⟩
          · exact hlater _ rfl rfl
    · exact hlater m rfl rfl
  · split
    · split
      · exact hd _ _
      · split
        · exact hd _ _
        · exact ⟨⟨rfl, Nat.zero_le _⟩, rfl⟩
    · unfold cdF
      simp only
      split
      · exact ⟨⟨rfl, hdr _⟩, rfl⟩
      · split
        · exact ⟨⟨rfl, Nat.zero_le _⟩, rfl⟩
        · exact ⟨⟨rfl, hdr _⟩, rfl⟩
theorem stepF_kept (m : MkM) : (stepF m).2.2.2.name = m.name ∧ (stepF m).2.2.2.buf.length ≤ m.buf.length := by
  have hl := (textF_spec m _ m.buf (Nat.le_refl _)).1.length_le
  have hdr : ∀ n, ((textF m m.buf).2.1.drop n).length ≤ m.buf.length := fun n => by rw [List.length_drop]; omega
  have htg : ∀ e, (tagF { m with buf := (textF m m.buf).2.1 } e).2.2.2.name = m.name ∧ (tagF { m with buf := (textF m m.buf).2.1 } e).2.2.2.buf.length ≤ m.buf.length := fun e =>
    ⟨(tagF_kept _ e).1, Nat.le_trans (tagF_kept { m with buf := (textF m m.buf).2.1 } e).2 hl⟩
  unfold stepF
  simp only
  split
  · exact ⟨rfl, hl⟩
  · split
    · exact htg _
    · split
      · exact htg _
      · split
        · exact ⟨rfl, hdr _⟩
        · split
          · exact ⟨rfl, hdr _⟩
          · split
            · exact ⟨rfl, hl⟩
            · split
              · exact ⟨rfl, hdr _⟩
              · split
                · exact ⟨rfl, hl⟩
                · exact ⟨rfl, hl⟩
theorem oneF_kept (m : MkM) : (oneF m).2.2.2.name = m.name ∧ (oneF m).2.2.2.buf.length ≤ m.buf.length := by
  unfold oneF
  split
  · exact stepF_kept m
  · exact (passF_kept m).1

/-- what read has told -/
def ReadAt (base : Nat) (o : Option MarkD) (r : Ending) (w' : World) : Prop := match o with
  | none => r = .returned (.tuple #[markV (.slice none 0 0) (bareM 0), .bool false])
  | some x => ∃ sl, r = .returned (.tuple #[markV sl x, .bool true]) ∧ w'.ownsRow base 56 2 sl x.attrs.length (pairsV (attP x.attrs))
theorem one_out {m : MkM} (h : m.pass ≠ 0) {r : Ending} {w' : World} {base : Nat} (hr : r = .returned (outV (passF m))) : OutAt base (oneF m) r w' := by
  unfold oneF
  rw [if_neg h]
  refine ⟨.slice none 0 0, hr, ?_⟩
  rw [(passF_kept m).2]
  exact World.ownsRow_nil _ _ _ _

theorem max_put5 {W : World} {g : Nat} {x : Int} (h : maxAt W x) (hg : 0 ≠ g) (v0 v1 v2 v3 v4 : Value) : maxAt (put5 W g v0 v1 v2 v3 v4) x := by
  unfold maxAt World.cell? at h ⊢
  rw [put5_other hg]
  exact h
set_option maxRecDepth 100000 in
set_option maxHeartbeats 4000000 in
theorem read_any (m : MkM) (b : Nat) (x : Int) (w : World) (hr : Row w b (machV m)) (hm : maxAt w x) (hl : m.buf.length ≤ 4294967280) (hn : m.name.length ≤ 4294967280) :
    Calls Tryz.prog 29 #[.pointer (some ⟨b, 0, none⟩)] w fun r w' => ReadAt w.heap.size (readF m).1 r w' ∧ Row w' b (machV (readF m).2) ∧ Keeps (Only b) w w' := by
  have hbw := hr.lt
  have hne : w.heap.size ≠ b := by omega
  obtain ⟨o, ho⟩ : ∃ o, o = readF m := ⟨_, rfl⟩
  rw [← ho]
  have HM0 := Lib.hid hm
  have HR0 := Lib.hid hr
  have HHO := Lib.hid ho
  clear hr hm ho
  go_enter Tryz.func29, Tryz.ntmps29
  go_wp2_with fail
  go_loopg [5] (doM m) (fun g _ wr => ∃ m' : MkM, doM m' ≤ g ∧ readF m' = o ∧ m'.name = m.name ∧ m'.buf.length ≤ m.buf.length ∧ Row wr b (machV m') ∧ maxAt wr x ∧ wr.heap[w.heap.size]? = some (.cells zeroMark 46 (0, 0)) ∧ Keeps (Only b) w wr ∧ w.heap.size < wr.heap.size)
  case atStart => exact ⟨m, Nat.le_refl _, HHO.out.symm, rfl, Nat.le_refl _, HR0.out.kept (heap_alloc_old _ _ hbw), cell_later ((Below.refl _ w).alloc (Nat.le_refl _) _) HM0.out, heap_alloc_new _ _, (Keeps.refl (Only b) w).alloc _, by simp⟩
  case round =>
    obtain ⟨m', hg, hv, hnm, hbl, hrr, hmx, hz, hkk, hzr⟩ := hrel
    have HV := Lib.hid hv
    have HRx := Lib.hid hrr
    have HMx := Lib.hid hmx
    have HZ := Lib.hid hz
    have HKx := Lib.hid hkk
    obtain ⟨-, -, -, -, -, -, hc6, -, -, hc9⟩ := mach_row hrr
    have hbr := hrr.lt
    have hnm2 : m'.name.length ≤ 4294967280 := by rw [hnm]; exact hn
    have HNM := Lib.hid hnm
    clear hv hrr hmx hz hkk hnm
    by_cases he : m'.err = 0
    · rw [he] at hc9
      obtain ⟨X, hX⟩ : ∃ X, X = wr.heap.size := ⟨_, rfl⟩
      obtain ⟨wa, hwa⟩ : ∃ wa, wa = wr.alloc (.cells zeroMark 46) := ⟨_, rfl⟩
      have HRa := Lib.hid (show Row wa b (machV m') from hwa ▸ HRx.out.kept (heap_alloc_old _ _ hbr))
      have HZa := Lib.hid (show wa.heap[w.heap.size]? = some (.cells zeroMark 46 (0, 0)) from hwa ▸ (heap_alloc_old _ _ hzr).trans HZ.out)
      have HXa := Lib.hid (show wa.heap[X]? = some (.cells zeroMark 46 (0, 0)) from by rw [hwa, hX]; exact heap_alloc_new _ _)
      have HKa := Lib.hid (show Keeps (Only b) w wa from hwa ▸ HKx.out.alloc _)
      have HMa := Lib.hid (show maxAt wa x from by rw [hwa]; exact cell_later ((Below.refl wr.heap.size wr).alloc (Nat.le_refl _) _) HMx.out)
      have hzRa : w.heap.size < wa.heap.size := by rw [hwa]; simp; omega
      have hzXa : X < wa.heap.size := by rw [hwa, hX]; simp
      have hXw : w.heap.size < X := by omega
      have hbX : b < X := by omega
      have HWA : Hid (wa = wr.alloc (.cells #[.int .i64 0, .string ⟨#[]⟩, .slice none 0 0, .bool false, .string ⟨#[]⟩] 46)) := hwa
      clear hwa
      by_cases hp : m'.pass = 0
      · rw [hp] at hc6
        have HST := Lib.hid (step_any m' b wa HRa.out (by omega) hnm2)
        rw [show stepF m' = oneF m' from by unfold oneF; rw [if_pos hp]] at HST
        clear HRx HZ HKx HMx
        go_wp2_with fail
        rw [← HWA.out, ← hX]
        clear HWA hX hc6 hc9
        refine HST.out.mono ?_
        rintro r W1 ⟨⟨sl, rfl, hown⟩, r2, k2⟩
        obtain ⟨a, c, hsl, -⟩ := own_at hown
        subst hsl
        have hXb : X ≠ b := by omega
        have HZ1 := Lib.hid (only_zero HZa.out k2 hzRa hne)
        have HX1 := Lib.hid (only_zero HXa.out k2 hzXa hXb)
        have HK1 := Lib.hid (HKa.out.trans k2)
        have HR1 := Lib.hid r2
        have HOW := Lib.hid hown
        have HM1 := Lib.hid (max_keeps HMa.out HRa.out k2)
        have hML := lt_of_cell HM0.out
        have hz1 : w.heap.size < W1.heap.size := Nat.lt_of_lt_of_le hzRa k2.size
        clear k2 r2 hown
        obtain ⟨⟨q0, q1, q2, q3, q4⟩, f0, f1, f2, f3, f4⟩ := res_cells HZ1.out
        obtain ⟨⟨y0, y1, y2, y3, y4⟩, z0, z1, z2, z3, z4⟩ := res_cells HX1.out
        have hRX : w.heap.size ≠ X := by omega
        dsimp only [markV]
        cases ht : (oneF m').2.1
        · cases hs : (oneF m').2.2.1
          · have hgo := readF_go he ht hs
            have hless := one_less m' (.inr hs)
            rw [hgo] at HV
            clear hgo
            have hkt := oneF_kept m'
            have HKT := Lib.hid (show (oneF m').2.2.2.name = m.name ∧ (oneF m').2.2.2.buf.length ≤ m.buf.length from ⟨hkt.1.trans HNM.out, Nat.le_trans hkt.2 hbl⟩)
            clear hkt
            go_wp2_with fail
            go_roundg (doM (oneF m').2.2.2)
            case measure => omega
            case rel => exact ⟨(oneF m').2.2.2, Nat.le_refl _, HV.out, HKT.out.1, HKT.out.2, put5_row HR1.out (fun e => hXb e.symm) _ _ _ _ _, max_put5 HM1.out (by show (_ : Nat) ≠ X; omega) _ _ _ _ _, (put5_other hRX _ _ _ _ _).trans HZ1.out, put5_keeps HK1.out (Nat.le_of_lt hXw) _ _ _ _ _, by simpa [put5] using hz1⟩
          · have HO := Lib.hid (HV.out.symm.trans (readF_stop he ht hs))
            go_wp2_with fail
            refine bodyPost_ret (results_attr rfl _ _ w.heap.size _ _ _ _ rfl (put5_at ((put5_other hRX _ _ _ _ _).trans HZ1.out) _ _ _ _ _) Tryz.underlying46 rfl mark_info) rfl ?_
            rw [HO.out]
            exact ⟨rfl, put5_row (put5_row HR1.out (fun e => hXb e.symm) _ _ _ _ _) (fun e => hne e.symm) _ _ _ _ _, put5_keeps (put5_keeps HK1.out (Nat.le_of_lt hXw) _ _ _ _ _) (Nat.le_refl _) _ _ _ _ _⟩
        · have HO := Lib.hid (HV.out.symm.trans (readF_told he ht))
          go_wp2_with fail
          refine bodyPost_ret (results_attr rfl _ _ w.heap.size _ _ _ _ rfl (put5_at ((put5_other hRX _ _ _ _ _).trans HZ1.out) _ _ _ _ _) Tryz.underlying46 rfl mark_info) rfl ?_
          rw [HO.out]
          exact ⟨⟨.slice a (oneF m').1.attrs.length c, rfl, own_base (own_put5 (own_put5 HOW.out hzXa _ _ _ _ _) hzRa _ _ _ _ _) (Nat.le_of_lt hzRa)⟩, put5_row (put5_row HR1.out (fun e => hXb e.symm) _ _ _ _ _) (fun e => hne e.symm) _ _ _ _ _, put5_keeps (put5_keeps HK1.out (Nat.le_of_lt hXw) _ _ _ _ _) (Nat.le_refl _) _ _ _ _ _⟩
      · have hpb : (m'.pass == 0) = false := beq_eq_false_iff_ne.2 hp
        have HST : Hid (Calls Tryz.prog 41 #[.pointer (some ⟨b, 0, none⟩)] wa fun r w' => OutAt wa.heap.size (oneF m') r w' ∧ Row w' b (machV (oneF m').2.2.2) ∧ Keeps (Only b) wa w') :=
          (passes_any m' b x wa HRa.out HMa.out (by omega) hp).mono fun r w' ⟨h1, h2, h3⟩ => ⟨one_out hp h1, by unfold oneF; rw [if_neg hp]; exact h2, h3⟩
        clear HRx HZ HKx HMx
        go_wp2_with fail
        rw [← HWA.out, ← hX]
        clear HWA hX hc6 hc9
        refine HST.out.mono ?_
        rintro r W1 ⟨⟨sl, rfl, hown⟩, r2, k2⟩
        obtain ⟨a, c, hsl, -⟩ := own_at hown
        subst hsl
        have hXb : X ≠ b := by omega
        have HZ1 := Lib.hid (only_zero HZa.out k2 hzRa hne)
        have HX1 := Lib.hid (only_zero HXa.out k2 hzXa hXb)
        have HK1 := Lib.hid (HKa.out.trans k2)
        have HR1 := Lib.hid r2
        have HOW := Lib.hid hown
        have HM1 := Lib.hid (max_keeps HMa.out HRa.out k2)
        have hML := lt_of_cell HM0.out
        have hz1 : w.heap.size < W1.heap.size := Nat.lt_of_lt_of_le hzRa k2.size
        clear k2 r2 hown
        obtain ⟨⟨q0, q1, q2, q3, q4⟩, f0, f1, f2, f3, f4⟩ := res_cells HZ1.out
        obtain ⟨⟨y0, y1, y2, y3, y4⟩, z0, z1, z2, z3, z4⟩ := res_cells HX1.out
        have hRX : w.heap.size ≠ X := by omega
        dsimp only [markV]
        cases ht : (oneF m').2.1
        · cases hs : (oneF m').2.2.1
          · have hgo := readF_go he ht hs
            have hless := one_less m' (.inr hs)
            rw [hgo] at HV
            clear hgo
            have hkt := oneF_kept m'
            have HKT := Lib.hid (show (oneF m').2.2.2.name = m.name ∧ (oneF m').2.2.2.buf.length ≤ m.buf.length from ⟨hkt.1.trans HNM.out, Nat.le_trans hkt.2 hbl⟩)
            clear hkt
            go_wp2_with fail
            go_roundg (doM (oneF m').2.2.2)
            case measure => omega
            case rel => exact ⟨(oneF m').2.2.2, Nat.le_refl _, HV.out, HKT.out.1, HKT.out.2, put5_row HR1.out (fun e => hXb e.symm) _ _ _ _ _, max_put5 HM1.out (by show (_ : Nat) ≠ X; omega) _ _ _ _ _, (put5_other hRX _ _ _ _ _).trans HZ1.out, put5_keeps HK1.out (Nat.le_of_lt hXw) _ _ _ _ _, by simpa [put5] using hz1⟩
          · have HO := Lib.hid (HV.out.symm.trans (readF_stop he ht hs))
            go_wp2_with fail
            refine bodyPost_ret (results_attr rfl _ _ w.heap.size _ _ _ _ rfl (put5_at ((put5_other hRX _ _ _ _ _).trans HZ1.out) _ _ _ _ _) Tryz.underlying46 rfl mark_info) rfl ?_
            rw [HO.out]
            exact ⟨rfl, put5_row (put5_row HR1.out (fun e => hXb e.symm) _ _ _ _ _) (fun e => hne e.symm) _ _ _ _ _, put5_keeps (put5_keeps HK1.out (Nat.le_of_lt hXw) _ _ _ _ _) (Nat.le_refl _) _ _ _ _ _⟩
        · have HO := Lib.hid (HV.out.symm.trans (readF_told he ht))
          go_wp2_with fail
          refine bodyPost_ret (results_attr rfl _ _ w.heap.size _ _ _ _ rfl (put5_at ((put5_other hRX _ _ _ _ _).trans HZ1.out) _ _ _ _ _) Tryz.underlying46 rfl mark_info) rfl ?_
          rw [HO.out]
          exact ⟨⟨.slice a (oneF m').1.attrs.length c, rfl, own_base (own_put5 (own_put5 HOW.out hzXa _ _ _ _ _) hzRa _ _ _ _ _) (Nat.le_of_lt hzRa)⟩, put5_row (put5_row HR1.out (fun e => hXb e.symm) _ _ _ _ _) (fun e => hne e.symm) _ _ _ _ _, put5_keeps (put5_keeps HK1.out (Nat.le_of_lt hXw) _ _ _ _ _) (Nat.le_refl _) _ _ _ _ _⟩
    · have heb : (m'.err == 0) = false := beq_eq_false_iff_ne.2 he
      have HO := Lib.hid (HV.out.symm.trans (readF_err he))
      obtain ⟨⟨q0, q1, q2, q3, q4⟩, f0, f1, f2, f3, f4⟩ := res_cells HZ.out
      go_wp2_with fail
      -- the result stays as it was: HZ in the world
      refine bodyPost_ret (results_attr rfl _ _ w.heap.size _ _ _ _ rfl (put5_at HZ.out _ _ _ _ _) Tryz.underlying46 rfl mark_info) rfl ?_
      rw [HO.out]
      exact ⟨rfl, put5_row HRx.out (fun e => hne e.symm) _ _ _ _ _, put5_keeps HKx.out (Nat.le_refl _) _ _ _ _ _⟩
end Go.Proofs.YtbabcohidpcjjaaGreat

/-
  Contracts: marks' machine: set, switches: the mode.
-/
namespace Go.Proofs.YtbabcohidpcjjaaGreat
open Go.RowKit Mem

/-- a small letter or a digit -/
def modeB (c : UInt8) : Bool := (decide (97 ≤ c) && decide (c ≤ 122)) || (decide (48 ≤ c) && decide (c ≤ 57))
theorem modeB_nat (c : UInt8) : modeB c = decide ((97 ≤ (c.toNat : Int) ∧ (c.toNat : Int) ≤ 122) ∨ (48 ≤ (c.toNat : Int) ∧ (c.toNat : Int) ≤ 57)) := by
  unfold modeB
  rw [ule, ule, ule, ule, Bool.eq_iff_iff]
  simp only [Bool.or_eq_true, Bool.and_eq_true, decide_eq_true_eq]
  exact Iff.rfl
theorem setF_eq (m : MkM) (mode : Int) (name : Str) : setF m mode name = if (decide (name ≠ []) && decide (97 ≤ name.headD 0) && name.all modeB) = true ∧ (mode = 1 ∨ mode = 2) then { m with mode := mode, name := name } else { m with mode := 0, name := [] } := by
  have e : setF m mode name = if name ≠ [] ∧ decide (97 ≤ name.headD 0) = true ∧ name.all modeB = true ∧ (mode = 1 ∨ mode = 2) then { m with mode := mode, name := name } else { m with mode := 0, name := [] } := rfl
  rw [e]
  by_cases h : name ≠ [] ∧ decide (97 ≤ name.headD 0) = true ∧ name.all modeB = true ∧ (mode = 1 ∨ mode = 2)
  · rw [if_pos h, if_pos ⟨by rw [Bool.and_eq_true, Bool.and_eq_true]; exact ⟨⟨decide_eq_true h.1, h.2.1⟩, h.2.2.1⟩, h.2.2.2⟩]
  · rw [if_neg h, if_neg]
    intro h'
    rw [Bool.and_eq_true, Bool.and_eq_true] at h'
    exact h ⟨of_decide_eq_true h'.1.1.1, h'.1.1.2, h'.1.2, h'.2⟩

set_option maxRecDepth 100000 in
set_option maxHeartbeats 4000000 in
theorem set_any (m : MkM) (b : Nat) (mode : Int) (s : ByteArray) (w : World) (hr : Row w b (machV m)) (hs : s.size ≤ 4294967280) :
    Calls Tryz.prog 36 #[.pointer (some ⟨b, 0, none⟩), .int .i64 mode, .string s] w fun r w' => r = .returned (.tuple #[]) ∧ Row w' b (machV (setF m mode s.toList)) ∧ Keeps (Only b) w w' := by
  have hbw := hr.lt
  obtain ⟨-, -, -, hc3, hc4, -⟩ := mach_row hr
  obtain ⟨-, -, -, hf3, hf4, -⟩ := mach_free hr
  have HR0 := Lib.hid hr
  have HSE := Lib.hid (setF_eq m mode s.toList)
  obtain ⟨o, ho⟩ : ∃ o, o = setF m mode s.toList := ⟨_, rfl⟩
  rw [← ho] at HSE ⊢
  clear hr ho
  obtain ⟨q0, hq0⟩ : ∃ q0 : Bool, q0 = (decide (s.toList ≠ []) && decide (97 ≤ s.toList.headD 0)) := ⟨_, rfl⟩
  rw [← hq0] at HSE
  have hstart : (s.toList.isEmpty = true ∧ q0 = false ∧ s.size = 0) ∨ (s.toList.isEmpty = false ∧ ∃ h0 : 0 < s.size, q0 = decide (97 ≤ (s[0].toNat : Int))) := by
    cases hl : s.toList with
    | nil =>
      rw [hl] at hq0
      exact .inl ⟨rfl, hq0, by rw [← size_toList, hl]; rfl⟩
    | cons c r =>
      have h0 : 0 < s.size := by rw [← size_toList, hl]; simp
      have := list_at s 0 h0
      rw [List.drop_zero, hl] at this
      have hc : c = s[0] := (List.cons.inj this).1
      rw [hl] at hq0
      refine .inr ⟨rfl, h0, ?_⟩
      rw [hq0, List.headD_cons, hc, ule]
      simp
  have HR2 : Hid (Row ((w.setCell ⟨b, 3, none⟩ (.int .i64 0)).setCell ⟨b, 4, none⟩ (.string ⟨#[]⟩)) b (machV { m with mode := 0, name := [] })) := (HR0.out.set 3 (.int .i64 0)).set 4 (.string (strB []))
  have HK2 := Lib.hid (keep_set (keep_set (Keeps.refl (Only b) w) (.int .i64 0) (j := 3)) (.string ⟨#[]⟩) (j := 4))
  have HS := Lib.hid (size_toList s)
  clear hq0
  rcases hstart with ⟨he, rfl, h0⟩ | ⟨he, h0, hq⟩
  · go_enter Tryz.func36, Tryz.ntmps36
    go_wp2_with fail
    generalize (w.setCell ⟨b, 3, none⟩ (.int .i64 0)).setCell ⟨b, 4, none⟩ (.string ⟨#[]⟩) = W2 at *
    go_loopw [6, 7] (fun v i wr => v = .bool false ∧ i = .int .i64 0 ∧ wr = W2) (fun _ _ _ => 0)
    case atStart => exact ⟨rfl, rfl, rfl⟩
    case round =>
      obtain ⟨rfl, rfl, rfl⟩ := hrel
      have h0z : ¬ (0 : Int) < (s.size : Int) := by omega
      go_wp2_with fail
      go_end0
      exact ⟨rfl, by rw [HSE.out, if_neg (by simp)]; exact HR2.out, HK2.out⟩
  · go_enter Tryz.func36, Tryz.ntmps36
    have hu0 := s[0].toNat_lt
    go_wp2_with fail
    generalize (w.setCell ⟨b, 3, none⟩ (.int .i64 0)).setCell ⟨b, 4, none⟩ (.string ⟨#[]⟩) = W2 at *
    clear hc3 hc4 hf3 hf4
    go_loopw [6, 7] (fun v i wr => ∃ (k : Nat) (q : Bool), k ≤ s.size ∧ i = .int .i64 k ∧ v = .bool q ∧ q = (q0 && (s.toList.take k).all modeB) ∧ wr = W2) (fun _ i _ => s.size - (intOf i).toNat)
    case atStart => exact ⟨0, q0, Nat.zero_le _, rfl, by rw [hq]; rfl, by simp, rfl⟩
    case round =>
      obtain ⟨k, q, hk, rfl, rfl, hqq, rfl⟩ := hrel
      by_cases hlt : k < s.size
      · have hkl : k < s.toList.length := by rw [HS.out]; exact hlt
        have hu := s[k].toNat_lt
        have HNEW : Hid ((q0 && (s.toList.take (k + 1)).all modeB) = (q && decide ((97 ≤ (s[k].toNat : Int) ∧ (s[k].toNat : Int) ≤ 122) ∨ (48 ≤ (s[k].toNat : Int) ∧ (s[k].toNat : Int) ≤ 57)))) := by
          show _ = _
          rw [List.take_succ_eq_append_getElem hkl, List.all_append, byte_at s k hlt hkl, hqq, ← modeB_nat]
          simp [Bool.and_assoc]
        clear hqq hq
        cases q
        · rw [Bool.false_and] at HNEW
          go_wp2_with fail
          go_roundw
          case rel => exact ⟨k + 1, false, by omega, by go_num, rfl, HNEW.out.symm, by first | rfl | trivial⟩
          case measure => simp [intOf]; omega
        · rw [Bool.true_and] at HNEW
          go_wp2_with fail
          all_goals
            go_roundw
            case rel =>
              refine ⟨k + 1, _, by omega, by go_num, rfl, ?_, by first | rfl | trivial⟩
              rw [HNEW.out]
              first | exact (decide_eq_true (by omega)).symm | exact (decide_eq_false (by omega)).symm | exact decide_eq_decide.2 (by omega) | (rw [← Bool.decide_or]; exact decide_eq_decide.2 (by omega))
            case measure => simp [intOf]; omega
      · obtain rfl : k = s.size := by omega
        have HSE2 : Hid (o = if q = true ∧ (mode = 1 ∨ mode = 2) then { m with mode := mode, name := s.toList } else { m with mode := 0, name := [] }) := by
          show _ = _
          rw [HSE.out, hqq, List.take_of_length_le (by rw [HS.out]; exact Nat.le_refl _)]
        obtain ⟨-, -, -, hc3, hc4, -⟩ := mach_row HR2.out
        obtain ⟨-, -, -, hf3, hf4, -⟩ := mach_free HR2.out
        clear hqq hq
        by_cases hm : mode = 1 ∨ mode = 2
        · have hmm : (mode == 1) = true ∨ ((mode == 1) = false ∧ (mode == 2) = true) := by
            rcases hm with h | h
            · exact .inl (beq_iff_eq.2 h)
            · exact .inr ⟨by rw [h]; rfl, beq_iff_eq.2 h⟩
          cases q
          · go_wp2_with fail
            go_end0
            exact ⟨by first | rfl | trivial, by rw [HSE2.out, if_neg (by simp)]; exact HR2.out, HK2.out⟩
          · rcases hmm with h1 | ⟨h1, h2⟩
            all_goals
              have HHM := Lib.hid hm
              clear hm
              go_wp2_with fail
              go_end0
              refine ⟨rfl, ?_, keep_set (keep_set HK2.out _) _⟩
              rw [HSE2.out, if_pos ⟨by first | rfl | trivial, HHM.out⟩]
              have h := (HR2.out.set 3 (.int .i64 mode)).set 4 (.string (strB s.toList))
              rw [strB_mem] at h
              have e5 : (machV { m with mode := mode, name := s.toList }) = ((machV { m with mode := 0, name := [] }).set 3 (.int .i64 mode)).set 4 (.string s) := by
                show _ = [_, _, _, _, Value.string s, _, _, _, _, _]
                unfold machV
                rw [strB_mem]
              rw [e5]
              exact h
        · have h1 : (mode == 1) = false := beq_eq_false_iff_ne.2 fun h => hm (.inl h)
          have h2 : (mode == 2) = false := beq_eq_false_iff_ne.2 fun h => hm (.inr h)
          have HHM := Lib.hid hm
          clear hm
          go_wp2_with fail
          all_goals go_end0
          all_goals exact ⟨by first | rfl | trivial, by rw [HSE2.out, if_neg (fun h => HHM.out h.2)]; exact HR2.out, HK2.out⟩

/-- the names that ask for a mode, as tests -/
def anyN (n : Str) (l : List Str) : Bool := l.any fun x => n == x
theorem contains_any (l : List Str) (n : Str) : l.contains n = anyN n l := by
  unfold anyN
  rw [List.contains_eq_any_beq]
set_option maxRecDepth 100000 in
set_option maxHeartbeats 4000000 in
theorem switches_any (m : MkM) (b : Nat) (x : MarkD) (sl : Value) (w : World) (hr : Row w b (machV m)) (hs : x.name.length ≤ 4294967280) :
    Calls Tryz.prog 40 #[.pointer (some ⟨b, 0, none⟩), markV sl x] w fun r w' => r = .returned (.tuple #[]) ∧ Row w' b (machV (switchF m x)) ∧ Keeps (Only b) w w' := by
  have hbw := hr.lt
  have HR := Lib.hid hr
  have HS1 := Lib.hid (fun mode u hu => set_any m b mode (strB x.name) u hu (by rw [strB_size]; exact hs))
  rw [toList_strB] at HS1
  obtain ⟨o, ho⟩ : ∃ o, o = switchF m x := ⟨_, rfl⟩
  rw [← ho]
  unfold switchF at ho
  rw [contains_any, contains_any] at ho
  unfold anyN refW rawW at ho
  simp only [List.any_cons, List.any_nil, Bool.or_false] at ho
  have ht : (strB x.name).toList = x.name := toList_strB _
  have HRA : Hid (∀ ob, Row (w.alloc ob) b (machV m)) := fun ob => hr.kept (heap_alloc_old w ob hbw)
  by_cases hk : x.kind = 2
  · rw [if_neg (fun h => h hk)] at ho
    obtain ⟨t0, hx0⟩ : ∃ t, (x.name == ([116, 105, 116, 108, 101] : List UInt8)) = t := ⟨_, rfl⟩
    obtain ⟨t1, hx1⟩ : ∃ t, (x.name == ([116, 101, 120, 116, 97, 114, 101, 97] : List UInt8)) = t := ⟨_, rfl⟩
    obtain ⟨t2, hx2⟩ : ∃ t, (x.name == ([115, 116, 121, 108, 101] : List UInt8)) = t := ⟨_, rfl⟩
    obtain ⟨t3, hx3⟩ : ∃ t, (x.name == ([115, 99, 114, 105, 112, 116] : List UInt8)) = t := ⟨_, rfl⟩
    obtain ⟨t4, hx4⟩ : ∃ t, (x.name == ([120, 109, 112] : List UInt8)) = t := ⟨_, rfl⟩
    obtain ⟨t5, hx5⟩ : ∃ t, (x.name == ([105, 102, 114, 97, 109, 101] : List UInt8)) = t := ⟨_, rfl⟩
    obtain ⟨t6, hx6⟩ : ∃ t, (x.name == ([110, 111, 101, 109, 98, 101, 100] : List UInt8)) = t := ⟨_, rfl⟩
    obtain ⟨t7, hx7⟩ : ∃ t, (x.name == ([110, 111, 102, 114, 97, 109, 101, 115] : List UInt8)) = t := ⟨_, rfl⟩
    rw [hx0, hx1, hx2, hx3, hx4, hx5, hx6, hx7] at ho
    have HO := Lib.hid ho
    have hkb : (x.kind != 2) = false := by rw [hk]; rfl
    clear ho hr hk
    unfold markV
    go_enter Tryz.func40, Tryz.ntmps40
    go_wp2_with (go_at_call 36; go_must (refine (HS1.out _ _ (HRA.out _)).mono ?_; rintro r w1 ⟨rfl, r1, k1⟩))
    all_goals go_end0
    all_goals first
      | (have h : o = setF m 1 x.name := by (rw [HO.out]; simp [*]; done)
         rw [h]; exact ⟨by first | rfl | trivial, r1, keeps_alloc k1⟩)
      | (have h : o = setF m 2 x.name := by (rw [HO.out]; simp [*]; done)
         rw [h]; exact ⟨by first | rfl | trivial, r1, keeps_alloc k1⟩)
      | (have h : o = m := by (rw [HO.out]; simp [*]; done)
         rw [h]; exact ⟨by first | rfl | trivial, HRA.out _, (Keeps.refl (Only b) w).alloc _⟩)
      | (exfalso; simp_all; done)
  · rw [if_pos hk] at ho
    have HO := Lib.hid ho
    have hkb : (x.kind != 2) = true := by simpa using hk
    clear ho hr hk
    unfold markV
    go_enter Tryz.func40, Tryz.ntmps40
    go_wp2_with fail
    refine bodyPost_ret (results_none rfl _ _ _) rfl ?_
    exact ⟨rfl, by rw [HO.out]; exact HRA.out _, (Keeps.refl (Only b) w).alloc _⟩
end Go.Proofs.YtbabcohidpcjjaaGreat

/-
  What marks' machine tells is no longer than a tag may be: plain Lean, no Go.
-/
namespace Go.Proofs.YtbabcohidpcjjaaGreat
open Mem

theorem tagF_name (m : MkM) (e : Bool) : (tagF m e).1.name.length ≤ 2049 := by
  have hp : (parseF (m.buf.take 2049) e).1.name.length ≤ 2049 := by
    unfold parseF
    cases hu : untilF signT ((m.buf.take 2049).drop (if e then 2 else 1)) with
    | none => exact Nat.zero_le _
    | some q =>
      obtain ⟨nm, r⟩ := q
      have hl := (untilF_len hu).1
      rw [List.length_drop, List.length_take] at hl
      have hn : (lowS nm).length ≤ 2049 := by unfold lowS; rw [List.length_map]; omega
      cases ht : tagsF [] r with
      | none => simp only [ht]; exact Nat.zero_le _
      | some q =>
        obtain ⟨al, sl, r2⟩ := q
        simp only [ht]
        cases e
        · simp only [Bool.false_eq_true, if_false]
          split
          · exact Nat.zero_le _
          · exact hn
        · exact hn
  unfold tagF
  simp only
  obtain ⟨er, her⟩ : ∃ er, er = if (parseF (m.buf.take 2049) e).2.1 > 2048 ∨ ((parseF (m.buf.take 2049) e).2.1 < 0 ∧ 2048 < (m.buf.take 2049).length) then (41 : Int) else (parseF (m.buf.take 2049) e).2.2 := ⟨_, rfl⟩
  rw [← her]
  by_cases h0 : er = 0
  · rw [if_neg (fun hh => hh h0)]
    by_cases hn : (parseF (m.buf.take 2049) e).2.1 < 0
    · rw [if_pos hn]; exact Nat.zero_le _
    · rw [if_neg hn]; exact hp
  · rw [if_pos h0]; exact Nat.zero_le _
theorem tagF_err {m : MkM} {e : Bool} (h : (tagF m e).2.1 = true) : (tagF m e).2.2.2.err = m.err := by
  unfold tagF at h ⊢
  simp only at h ⊢
  obtain ⟨er, her⟩ : ∃ er, er = if (parseF (m.buf.take 2049) e).2.1 > 2048 ∨ ((parseF (m.buf.take 2049) e).2.1 < 0 ∧ 2048 < (m.buf.take 2049).length) then (41 : Int) else (parseF (m.buf.take 2049) e).2.2 := ⟨_, rfl⟩
  rw [← her] at h ⊢
  by_cases h0 : er = 0
  · rw [if_neg (fun hh => hh h0)] at h ⊢
    by_cases hn : (parseF (m.buf.take 2049) e).2.1 < 0
    · rw [if_pos hn] at h; cases h
    · rw [if_neg hn]
      cases e <;> rfl
  · rw [if_pos h0] at h; cases h
theorem passF_err (m : MkM) : (passF m).2.2.2.err = m.err ∧ (passF m).1.name = [] := by
  have hlater : ∀ m' : MkM, m'.err = m.err → (comLater m').2.2.2.err = m.err ∧ (comLater m').1.name = [] := fun m' h => by
    unfold comLater
    simp only
    repeat' split
    all_goals exact ⟨h, rfl⟩
  unfold passF
  split
  · unfold comF
    split
    · split
      · exact ⟨rfl, rfl⟩
      · split
        · exact ⟨rfl, rfl⟩
        · split
          · exact ⟨rfl, rfl⟩
          · exact hlater _ rfl
    · exact hlater m rfl
  · split
    · repeat' split
      all_goals exact ⟨rfl, rfl⟩
    · unfold cdF
      simp only
      repeat' split
      all_goals exact ⟨rfl, rfl⟩
theorem oneF_err {m : MkM} (h : (oneF m).2.1 = true) : (oneF m).2.2.2.err = m.err ∧ (oneF m).1.name.length ≤ 2049 := by
  unfold oneF at h ⊢
  split
  · rename_i h0
    rw [if_pos h0] at h
    unfold stepF at h ⊢
    simp only at h ⊢
    generalize textF m m.buf = p at *
    by_cases ht : p.1 = []
    · rw [if_neg (fun hh => hh ht)] at h ⊢
      by_cases i2 : p.2.2 = 2
      · rw [if_pos i2] at h ⊢; exact ⟨tagF_err h, tagF_name _ _⟩
      · rw [if_neg i2] at h ⊢
        by_cases i3 : p.2.2 = 3
        · rw [if_pos i3] at h ⊢; exact ⟨tagF_err h, tagF_name _ _⟩
        · rw [if_neg i3] at h ⊢
          repeat' split at h
          all_goals cases h
    · rw [if_pos ht]; exact ⟨rfl, Nat.zero_le _⟩
  · exact ⟨(passF_err m).1, by rw [(passF_err m).2]; exact Nat.zero_le _⟩
theorem readF_name : ∀ (n : Nat) (m : MkM), doM m ≤ n → ∀ x m1, readF m = (some x, m1) → m1.err = 0 ∧ x.name.length ≤ 2049 := by
  intro n
  induction n using Nat.strongRecOn with
  | _ n ih =>
    intro m hm x m1 h
    by_cases he : m.err = 0
    · cases ht : (oneF m).2.1
      · cases hs : (oneF m).2.2.1
        · rw [readF_go he ht hs] at h
          have hl := one_less m (.inr hs)
          exact ih (doM (oneF m).2.2.2) (by omega) _ (Nat.le_refl _) x m1 h
        · rw [readF_stop he ht hs] at h; cases h
      · rw [readF_told he ht] at h
        cases h
        exact ⟨(oneF_err ht).1.trans he, (oneF_err ht).2⟩
    · rw [readF_err he] at h; cases h
theorem switch_name (m : MkM) (x : MarkD) (h : m.name.length ≤ 4294967280) (hx : x.name.length ≤ 2049) : (switchF m x).name.length ≤ 4294967280 ∧ (switchF m x).buf = m.buf := by
  have hs : ∀ k, (setF m k x.name).name.length ≤ 4294967280 ∧ (setF m k x.name).buf = m.buf := fun k => by
    unfold setF
    split
    · exact ⟨by show x.name.length ≤ _; omega, rfl⟩
    · exact ⟨Nat.zero_le _, rfl⟩
  unfold switchF
  repeat' split
  all_goals first | exact ⟨h, rfl⟩ | exact hs _
end Go.Proofs.YtbabcohidpcjjaaGreat
