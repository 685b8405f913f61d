import Derived.Test.YtbabcohidpcjjaaGreatZMkAll
import Derived.Test.YtbabcohidpcjjaaGreatZRefA
/-
  However a text comes, its marks are the same: plain Lean, no Go.
-/
namespace Go.Proofs.YtbabcohidpcjjaaGreat
open Mem

/-! what is behind changes nothing -/
theorem moreF_stays {c : UInt8} {r : Str} (u : Str) (h : moreF (c :: r) = false) : moreF (c :: r ++ u) = false := by
  rcases amp_cases (c :: r) with ⟨r', he⟩ | ⟨r', he, hr⟩ | ⟨c', r', he, hc⟩ | he
  · rw [he] at h ⊢
    rw [moreF_hash] at h
    have hne : numN r' ≠ r'.length := by simpa using h
    have hle := numN_le r'
    have hs := numG_stays (s := r') (x := u) (.inl (by omega))
    rw [List.cons_append, List.cons_append, moreF_hash]
    have hn : numN (r' ++ u) = numN r' := by unfold numN; rw [hs.1, hs.2.2]
    rw [hn, List.length_append]
    exact beq_eq_false_iff_ne.2 (by omega)
  · rw [he] at h ⊢
    rw [moreF_amp hr] at h
    have hr' : (r' ++ u).head? ≠ some 35 := by
      cases r' with
      | nil => exact absurd h (by decide +kernel)
      | cons c r => simpa using hr
    rw [List.cons_append, moreF_amp hr']
    unfold beginsF at h ⊢
    rw [List.any_eq_false] at h ⊢
    intro p hp hpre
    refine h p hp ?_
    rw [List.isPrefixOf_iff_prefix] at hpre ⊢
    exact (List.prefix_append r' u).trans hpre
  · rw [he]
    have hc35 : ∀ l : Str, moreF (c' :: l) = false := fun l => by
      unfold moreF
      rw [if_neg (by simp [hc.symm]), if_neg (by simp [hc.symm])]
    rw [List.cons_append]
    exact hc35 _
  · cases he
theorem while_more {p : UInt8 → Bool} : ∀ {s : Str}, s.dropWhile p ≠ [] → ∀ v : Str, (s ++ v).dropWhile p = s.dropWhile p ++ v ∧ (s ++ v).takeWhile p = s.takeWhile p
  | [], h, _ => absurd rfl h
  | c :: s, h, v => by
    rw [List.cons_append, List.dropWhile_cons, List.dropWhile_cons, List.takeWhile_cons, List.takeWhile_cons]
    rw [List.dropWhile_cons] at h
    by_cases hc : p c = true
    · rw [if_pos hc] at h
      rw [if_pos hc, if_pos hc, if_pos hc, if_pos hc]
      have := while_more h v
      rw [this.1, this.2]
      exact ⟨rfl, rfl⟩
    · rw [if_neg hc, if_neg hc, if_neg hc, if_neg hc]
      exact ⟨rfl, rfl⟩
theorem untilF_more {sg s t r : Str} (h : untilF sg s = some (t, r)) (v : Str) : untilF sg (s ++ v) = some (t, r ++ v) := by
  unfold untilF at h ⊢
  split at h
  · cases h
  · rename_i hne
    simp only [Option.some.injEq, Prod.mk.injEq] at h
    obtain ⟨h1, h2⟩ := while_more hne v
    rw [h1, h2, if_neg (fun e => hne (List.append_eq_nil_iff.1 e).1), h.1, h.2]
theorem valueF_more {r x t : Str} (h : valueF r = some (x, t)) (v : Str) : valueF (r ++ v) = some (x, t ++ v) := by
  unfold valueF at h ⊢
  cases hd : r.dropWhile spaceB with
  | nil => rw [hd] at h; cases h
  | cons q r1 =>
    rw [(while_more (by rw [hd]; exact List.cons_ne_nil _ _) v).1, hd]
    rw [hd] at h
    simp only [List.cons_append] at h ⊢
    by_cases hq : q = 34 ∨ q = 39
    · rw [if_pos hq] at h ⊢
      cases hu : untilF [q] r1 with
      | none => rw [hu] at h; cases h
      | some p =>
        obtain ⟨a, b⟩ := p
        have hl := (untilF_len hu).2
        rw [hu] at h
        simp only [Option.map_some, Option.some.injEq, Prod.mk.injEq] at h
        rw [untilF_more hu v]
        simp only [Option.map_some, Option.some.injEq, Prod.mk.injEq]
        refine ⟨h.1, ?_⟩
        rw [← h.2, List.drop_append_of_le_length hl]
    · rw [if_neg hq] at h ⊢
      have := untilF_more h v
      rwa [List.cons_append] at this
theorem attrF_more {s r : Str} {a : Str × Str} (h : attrF s = some (a, r)) (v : Str) : attrF (s ++ v) = some (a, r ++ v) := by
  cases s with
  | nil => cases h
  | cons c s =>
    simp only [attrF, List.cons_append] at h ⊢
    cases hu : untilF signA s with
    | none => rw [hu] at h; cases h
    | some p =>
      obtain ⟨t, r2⟩ := p
      rw [untilF_more hu v]
      rw [hu] at h
      simp only at h ⊢
      cases hd : r2.dropWhile spaceB with
      | nil => rw [hd] at h; cases h
      | cons d r4 =>
        rw [(while_more (by rw [hd]; exact List.cons_ne_nil _ _) v).1, hd]
        rw [hd] at h
        simp only [List.cons_append] at h ⊢
        by_cases h61 : d = 61
        · rw [if_pos h61] at h ⊢
          cases hv : valueF r4 with
          | none => rw [hv] at h; cases h
          | some p =>
            rw [valueF_more hv v]
            rw [hv] at h
            simp only [Option.map_some, Option.some.injEq, Prod.mk.injEq] at h ⊢
            exact ⟨h.1, by rw [← h.2]⟩
        · rw [if_neg h61] at h ⊢
          simp only [Option.some.injEq, Prod.mk.injEq] at h ⊢
          exact ⟨h.1, by rw [← h.2, List.cons_append]⟩
theorem tagsF_more : ∀ (n : Nat) (al : List (Str × Str)) (r : Str), r.length ≤ n → ∀ al' sl r', tagsF al r = some (al', sl, r') → ∀ v, tagsF al (r ++ v) = some (al', sl, r' ++ v) := by
  intro n
  induction n with
  | zero =>
    intro al r hn al' sl r' h v
    obtain rfl : r = [] := List.eq_nil_of_length_eq_zero (by omega)
    rw [tagsF] at h
    cases h
  | succ n ih =>
    intro al r hn al' sl r' h v
    rw [tagsF] at h ⊢
    cases hd : r.dropWhile gapB with
    | nil => rw [hd] at h; cases h
    | cons c r1 =>
      have hne : r.dropWhile gapB ≠ [] := by rw [hd]; exact List.cons_ne_nil _ _
      rw [(while_more hne v).1, (while_more hne v).2, hd]
      rw [hd] at h
      simp only [List.cons_append] at h ⊢
      by_cases h62 : c = 62
      · rw [if_pos h62] at h ⊢
        simp only [Option.some.injEq, Prod.mk.injEq] at h ⊢
        exact ⟨h.1, h.2.1, by rw [← h.2.2]⟩
      · rw [if_neg h62] at h ⊢
        cases ha : attrF (c :: r1) with
        | none => rw [ha] at h; cases h
        | some p =>
          obtain ⟨a, r2⟩ := p
          have hm := attrF_more ha v
          rw [List.cons_append] at hm
          rw [hm]
          rw [ha] at h
          simp only at h ⊢
          by_cases hl : r2.length < r.length
          · rw [if_pos hl] at h
            rw [if_pos (by rw [List.length_append, List.length_append]; omega)]
            exact ih _ r2 (by omega) _ _ _ h v
          · rw [if_neg hl] at h; cases h
theorem drop_more {α : Type} {s : List α} {k : Nat} (h : k ≤ s.length) (v : List α) : (s ++ v).drop k = s.drop k ++ v := List.drop_append_of_le_length h
theorem parseF_more {s : Str} {e : Bool} (h : 0 ≤ (parseF s e).2.1) (v : Str) : parseF (s ++ v) e = parseF s e ∧ (parseF s e).2.1 ≤ s.length := by
  obtain ⟨k, hk⟩ : ∃ k, k = if e = true then 2 else 1 := ⟨_, rfl⟩
  unfold parseF at h ⊢
  rw [← hk] at h ⊢
  cases hu : untilF signT (s.drop k) with
  | none => rw [hu] at h; exact absurd h (show ¬ (0 : Int) ≤ -1 by decide)
  | some p =>
    obtain ⟨nm, r⟩ := p
    have hl := untilF_len hu
    rw [List.length_drop] at hl
    rw [drop_more (by omega), untilF_more hu v]
    rw [hu] at h
    simp only at h ⊢
    cases ht : tagsF [] r with
    | none => rw [ht] at h; exact absurd h (show ¬ (0 : Int) ≤ -1 by decide)
    | some q =>
      obtain ⟨al, sl, r2⟩ := q
      rw [tagsF_more _ [] r (Nat.le_refl _) _ _ _ ht v]
      have e1 : (((s ++ v).length : Nat) : Int) - ((r2 ++ v).length : Nat) = (s.length : Int) - r2.length := by rw [List.length_append, List.length_append]; omega
      simp only [e1]
      refine ⟨trivial, ?_⟩
      repeat' split
      all_goals show (s.length : Int) - r2.length ≤ s.length; omega

/-! what stands at a < -/
theorem foldsF_more {s w : Str} (h : (foldsF s w).2 = false) (u : Str) : foldsF (s ++ u) w = foldsF s w := by
  unfold foldsF at h ⊢
  by_cases hm : lowS (s.take (min s.length w.length)) ≠ w.take (min s.length w.length)
  · rw [if_pos hm, if_pos]
    intro he
    apply hm
    have := congrArg (List.take (min s.length w.length)) he
    unfold lowS at this ⊢
    rw [← List.map_take, List.take_take, List.take_take, List.length_append] at this
    rw [show min (min s.length w.length) (min (s.length + u.length) w.length) = min s.length w.length from by omega, List.take_append_of_le_length (by omega)] at this
    exact this
  · rw [if_neg hm] at h ⊢
    have hn : ¬ min s.length w.length < w.length := by simpa using h
    have e : min (s ++ u).length w.length = min s.length w.length := by rw [List.length_append]; omega
    rw [e, List.take_append_of_le_length (by omega), if_neg hm]
theorem foldsF_short {s w : Str} (h : (foldsF s w).2 = true) : s.length < w.length := by
  unfold foldsF at h
  split at h
  · cases h
  · have : min s.length w.length < w.length := by simpa using h
    omega
theorem foldsF_long {s w : Str} (h : (foldsF s w).1 = true) : w.length ≤ s.length := by
  unfold foldsF at h
  split at h
  · cases h
  · have : min s.length w.length = w.length := by simpa using h
    omega
/-- a machine that reads alike -/
structure Kin (m m' : MkM) : Prop where
  mode : m'.mode = m.mode
  name : m'.name = m.name
  cdata : m'.cdata = m.cdata
theorem endsF_more {m m' : MkM} (k : Kin m m') (hc : m.closed = false) {s : Str} (h : endsF m s ≠ 1) (u : Str) : endsF m' (s ++ u) = endsF m s := by
  unfold endsF at h ⊢
  rw [k.name]
  have hu : unlessF m.closed 0 = 1 := by rw [hc]; rfl
  by_cases h1 : (foldsF s ([60, 47] ++ m.name)).2 = true ∨ ((foldsF s ([60, 47] ++ m.name)).1 = true ∧ s.length = m.name.length + 2)
  · rw [if_pos h1] at h; exact absurd hu h
  · rw [not_or] at h1
    have hs : (foldsF s ([60, 47] ++ m.name)).2 = false := by simpa using h1.1
    rw [foldsF_more hs u, hs]
    by_cases hw : (foldsF s ([60, 47] ++ m.name)).1 = true
    · have hl := foldsF_long hw
      simp only [List.length_append, List.length_cons, List.length_nil] at hl
      have hne : s.length ≠ m.name.length + 2 := fun e => h1.2 ⟨hw, e⟩
      have hg : (s ++ u).getD (m.name.length + 2) 0 = s.getD (m.name.length + 2) 0 := by
        rw [List.getD_eq_getElem?_getD, List.getD_eq_getElem?_getD, List.getElem?_append_left (by omega)]
      rw [hg, hw]
      have e1 : ¬ (s ++ u).length = m.name.length + 2 := by rw [List.length_append]; omega
      simp only [e1, hne, Bool.false_eq_true, and_false, or_self, if_false]
    · have hw' : (foldsF s ([60, 47] ++ m.name)).1 = false := by simpa using hw
      rw [hw']
      simp
theorem declF_more {m m' : MkM} (k : Kin m m') (hc : m.closed = false) {s : Str} (h : declF m s ≠ 1) (u : Str) : declF m' (s ++ u) = declF m s := by
  have hu : unlessF m.closed 8 = 1 := by rw [hc]; rfl
  unfold declF at h ⊢
  rw [k.cdata]
  by_cases h1 : (foldsF s comW).1 = true
  · have hl := foldsF_long h1
    have hs : (foldsF s comW).2 = false := by
      rw [Bool.eq_false_iff]; intro hh; have := foldsF_short hh; omega
    rw [foldsF_more hs u, h1]
    rfl
  · rw [if_neg h1] at h ⊢
    by_cases h2 : (foldsF s docW).1 = true
    · have hl := foldsF_long h2
      have e9 : docW.length = 9 := rfl
      have e4 : comW.length = 4 := rfl
      have hs : (foldsF s docW).2 = false := by
        rw [Bool.eq_false_iff]; intro hh; have := foldsF_short hh; omega
      have hs' : (foldsF s comW).2 = false := by
        rw [Bool.eq_false_iff]; intro hh; have := foldsF_short hh; omega
      rw [foldsF_more hs u, foldsF_more hs' u, if_neg h1, if_pos h2, if_pos h2]
    · rw [if_neg h2] at h ⊢
      by_cases h3 : cdataW.isPrefixOf s = true ∧ m.cdata = true
      · rw [if_pos h3] at h ⊢
        have hp := List.isPrefixOf_iff_prefix.1 h3.1
        have hl := hp.length_le
        have e9 : docW.length = 9 := rfl
        have e4 : comW.length = 4 := rfl
        have e9' : cdataW.length = 9 := rfl
        have hs : (foldsF s docW).2 = false := by
          rw [Bool.eq_false_iff]; intro hh; have := foldsF_short hh; omega
        have hs' : (foldsF s comW).2 = false := by
          rw [Bool.eq_false_iff]; intro hh; have := foldsF_short hh; omega
        rw [foldsF_more hs u, foldsF_more hs' u, if_neg h1, if_neg h2, if_pos ⟨List.isPrefixOf_iff_prefix.2 (hp.trans (List.prefix_append s u)), h3.2⟩]
      · rw [if_neg h3] at h ⊢
        by_cases h4 : (foldsF s comW).2 = true ∨ (foldsF s docW).2 = true ∨ (s.isPrefixOf cdataW = true ∧ m.cdata = true)
        · rw [if_pos h4] at h; exact absurd hu h
        · rw [if_neg h4]
          rw [not_or, not_or] at h4
          have hs : (foldsF s docW).2 = false := by simpa using h4.2.1
          have hs' : (foldsF s comW).2 = false := by simpa using h4.1
          rw [foldsF_more hs u, foldsF_more hs' u, if_neg h1, if_neg h2, if_neg, if_neg]
          · rw [not_or, not_or]
            refine ⟨h4.1, h4.2.1, fun hh => h4.2.2 ⟨?_, hh.2⟩⟩
            exact List.isPrefixOf_iff_prefix.2 ((List.prefix_append s u).trans (List.isPrefixOf_iff_prefix.1 hh.1))
          · intro hh
            have hp := List.isPrefixOf_iff_prefix.1 hh.1
            rcases Nat.le_total cdataW.length s.length with hl | hl
            · exact h3 ⟨List.isPrefixOf_iff_prefix.2 (List.prefix_of_prefix_length_le hp (List.prefix_append s u) hl), hh.2⟩
            · exact h4.2.2 ⟨List.isPrefixOf_iff_prefix.2 (List.prefix_of_prefix_length_le (List.prefix_append s u) hp hl), hh.2⟩
theorem lookF_more {m m' : MkM} (k : Kin m m') (hc : m.closed = false) {s : Str} (h : lookF m s ≠ 1) (u : Str) : lookF m' (s ++ u) = lookF m s := by
  have hu : unlessF m.closed 0 = 1 := by rw [hc]; rfl
  unfold lookF at h ⊢
  rw [k.mode]
  by_cases hm : m.mode ≠ 0
  · rw [if_pos hm] at h ⊢
    rw [if_pos hm]
    exact endsF_more k hc h u
  · rw [if_neg hm] at h ⊢
    rw [if_neg hm]
    match s, h with
    | [], h => exact absurd hu h
    | [_], h => exact absurd hu h
    | a :: c :: r, h =>
      simp only [List.cons_append] at h ⊢
      by_cases h1 : letterB c = true
      · rw [if_pos h1, if_pos h1]
      · rw [if_neg h1] at h ⊢
        rw [if_neg h1]
        by_cases h2 : c = 63
        · rw [if_pos h2, if_pos h2]
        · rw [if_neg h2] at h ⊢
          rw [if_neg h2]
          by_cases h3 : c = 33
          · rw [if_pos h3] at h ⊢
            rw [if_pos h3]
            exact declF_more k hc h u
          · rw [if_neg h3] at h ⊢
            rw [if_neg h3]
            by_cases h4 : c ≠ 47
            · rw [if_pos h4, if_pos h4]
            · rw [if_neg h4] at h ⊢
              rw [if_neg h4]
              match r, h with
              | [], h => exact absurd hu h
              | d :: r, _ => rfl

/-! texts -/
theorem encF_some (n : Nat) : encF n ≠ [] := by
  unfold encF
  repeat' split
  all_goals simp
theorem takeF_some {s : Str} {a : Bool} (h : (takeF s a).2 ≠ 0) : (takeF s a).1 ≠ [] := by
  rcases amp_cases s with ⟨r, rfl⟩ | ⟨r, rfl, hr⟩ | ⟨c, r, rfl, hc⟩ | rfl
  · rw [takeF_hash] at h ⊢
    unfold takeNum at h ⊢
    split at h
    · exact absurd rfl h
    · rw [if_neg (by assumption)]
      exact encF_some _
  · rw [takeF_amp hr] at h ⊢
    unfold takeName at h ⊢
    split at h
    · exact absurd rfl h
    · rename_i hf
      rw [if_neg hf]
      intro h0
      have h2 : (findF r).2 ≠ 0 := by
        intro h2
        apply hf
        unfold refused
        rw [h2]
        rfl
      rcases (findF_spec r).1 with ⟨h1, _⟩ | ⟨_, _, hk⟩
      · exact h2 h1
      · rw [h0] at hk
        exact absurd rfl ((by decide +kernel : ∀ k ∈ keys, k.2 ≠ []) _ hk)
  · rw [takeF_other hc] at h; exact absurd rfl h
  · rw [takeF_nil] at h; exact absurd rfl h

theorem lookF_kin {m m' : MkM} (k : Kin m m') (hcl : m'.closed = m.closed) (s : Str) : lookF m' s = lookF m s := by
  unfold lookF endsF declF
  rw [k.mode, k.name, k.cdata, hcl]
theorem textF_kin {m m' : MkM} (k : Kin m m') (hcl : m'.closed = m.closed) : ∀ (n : Nat) (s : Str), s.length ≤ n → textF m' s = textF m s := by
  intro n
  induction n with
  | zero =>
    intro s hs
    obtain rfl : s = [] := List.eq_nil_of_length_eq_zero (by omega)
    rw [textF, textF]
  | succ n ih =>
    intro s hs
    cases s with
    | nil => rw [textF, textF]
    | cons c r =>
      simp only [List.length_cons] at hs
      rw [textF, textF, ih r (by omega), ih (r.drop _) (by rw [List.length_drop]; omega), lookF_kin k hcl, k.mode, hcl]
/-- where a text ended there is none -/
theorem textF_again (m : MkM) : ∀ (n : Nat) (s : Str), s.length ≤ n → textF m (textF m s).2.1 = ([], (textF m s).2.1, (textF m s).2.2) := by
  intro n
  induction n with
  | zero =>
    intro s hs
    obtain rfl : s = [] := List.eq_nil_of_length_eq_zero (by omega)
    rw [textF]
    simp only
    rw [textF]
  | succ n ih =>
    intro s hs
    cases s with
    | nil =>
      rw [textF]
      simp only
      rw [textF]
    | cons c r =>
      simp only [List.length_cons] at hs
      have i1 := ih r (by omega)
      have i2 := ih (r.drop ((takeF (c :: r) false).2 - 1)) (by rw [List.length_drop]; omega)
      have e := textF.eq_2 m c r
      by_cases h60 : c = 60
      · rw [if_pos h60] at e
        by_cases hl : lookF m (c :: r) = 0
        · rw [if_pos hl] at e
          rw [e]
          exact i1
        · rw [if_neg hl] at e
          rw [e]
          exact e
      · rw [if_neg h60] at e
        by_cases h38 : c = 38 ∧ m.mode ≠ 2
        · rw [if_pos h38] at e
          by_cases hm : m.closed = false ∧ moreF (c :: r) = true
          · rw [if_pos hm] at e
            rw [e]
            exact e
          · rw [if_neg hm] at e
            rw [e]
            exact i2
        · rw [if_neg h38] at e
          rw [e]
          exact i1
/-- no text read: nothing is left behind -/
theorem textF_start (m : MkM) : ∀ (n : Nat) (s : Str), s.length ≤ n → (textF m s).1 = [] → (textF m s).2.1 = s := by
  intro n
  induction n with
  | zero =>
    intro s hs _
    obtain rfl : s = [] := List.eq_nil_of_length_eq_zero (by omega)
    rw [textF]
  | succ n ih =>
    intro s hs h
    cases s with
    | nil => rw [textF]
    | cons c r =>
      have e := textF.eq_2 m c r
      by_cases h60 : c = 60
      · rw [if_pos h60] at e
        by_cases hl : lookF m (c :: r) = 0
        · rw [if_pos hl] at e
          rw [e] at h; cases h
        · rw [if_neg hl] at e
          rw [e]
      · rw [if_neg h60] at e
        by_cases h38 : c = 38 ∧ m.mode ≠ 2
        · rw [if_pos h38] at e
          by_cases hm : m.closed = false ∧ moreF (c :: r) = true
          · rw [if_pos hm] at e
            rw [e]
          · rw [if_neg hm] at e
            rw [e] at h
            have h := (List.append_eq_nil_iff.1 h).1
            by_cases h0 : (takeF (c :: r) false).2 = 0
            · rw [if_pos h0] at h; cases h
            · rw [if_neg h0] at h; exact absurd h (takeF_some h0)
        · rw [if_neg h38] at e
          rw [e] at h; cases h
/-- a text that goes on -/
theorem textF_more {m m' : MkM} (k : Kin m m') (hc : m.closed = false) (u : Str) : ∀ (n : Nat) (s : Str), s.length ≤ n →
    ((textF m s).2.2 = 1 → textF m' (s ++ u) = ((textF m s).1 ++ (textF m' ((textF m s).2.1 ++ u)).1, (textF m' ((textF m s).2.1 ++ u)).2)) ∧
    ((textF m s).2.2 ≠ 1 → textF m' (s ++ u) = ((textF m s).1, (textF m s).2.1 ++ u, (textF m s).2.2)) := by
  intro n
  induction n with
  | zero =>
    intro s hs
    obtain rfl : s = [] := List.eq_nil_of_length_eq_zero (by omega)
    rw [textF]
    exact ⟨fun _ => rfl, fun h => absurd rfl h⟩
  | succ n ih =>
    intro s hs
    cases s with
    | nil =>
      rw [textF]
      exact ⟨fun _ => rfl, fun h => absurd rfl h⟩
    | cons c r =>
      simp only [List.length_cons] at hs
      obtain ⟨i1, i2⟩ := ih r (by omega)
      have e := textF.eq_2 m c r
      have e' := textF.eq_2 m' c (r ++ u)
      by_cases h60 : c = 60
      · rw [if_pos h60] at e e'
        by_cases hl : lookF m (c :: r) = 1
        · rw [if_neg (by rw [hl]; decide)] at e
          rw [e, hl]
          exact ⟨fun _ => rfl, fun h => absurd rfl h⟩
        · have hm := lookF_more k hc hl u
          rw [List.cons_append] at hm ⊢
          rw [hm] at e'
          by_cases h0 : lookF m (c :: r) = 0
          · rw [if_pos h0] at e e'
            rw [e, e']
            simp only
            exact ⟨fun h => by rw [i1 h]; rfl, fun h => by rw [i2 h]⟩
          · rw [if_neg h0] at e e'
            rw [e, e']
            exact ⟨fun h => absurd h hl, fun _ => rfl⟩
      · rw [if_neg h60] at e e'
        rw [k.mode] at e'
        by_cases h38 : c = 38 ∧ m.mode ≠ 2
        · rw [if_pos h38] at e e'
          by_cases hm : m.closed = false ∧ moreF (c :: r) = true
          · rw [if_pos hm] at e
            rw [e]
            exact ⟨fun _ => rfl, fun h => absurd rfl h⟩
          · have hmf : moreF (c :: r) = false := by
              rw [Bool.eq_false_iff]; exact fun h => hm ⟨hc, h⟩
            have hmf' := moreF_stays u hmf
            rw [List.cons_append] at hmf'
            have ht := takeF_more u false (List.cons_ne_nil c r) hmf
            rw [List.cons_append] at ht
            have hle := takeF_le (c :: r) false
            simp only [List.length_cons] at hle
            rw [if_neg hm] at e
            rw [if_neg (by rw [hmf']; simp), ht, drop_more (by omega)] at e'
            obtain ⟨j1, j2⟩ := ih (r.drop ((takeF (c :: r) false).2 - 1)) (by rw [List.length_drop]; omega)
            rw [List.cons_append, e, e']
            simp only
            exact ⟨fun h => by rw [j1 h, List.append_assoc], fun h => by rw [j2 h]⟩
        · rw [if_neg h38] at e e'
          rw [List.cons_append, e, e']
          simp only
          exact ⟨fun h => by rw [i1 h]; rfl, fun h => by rw [i2 h]⟩

/-! places of a word -/
theorem pre_more {w a : Str} (u : Str) (h : w.length ≤ a.length) : w.isPrefixOf (a ++ u) = w.isPrefixOf a := by
  rw [Bool.eq_iff_iff, List.isPrefixOf_iff_prefix, List.isPrefixOf_iff_prefix]
  exact ⟨fun hh => List.prefix_of_prefix_length_le hh (List.prefix_append a u) h, fun hh => hh.trans (List.prefix_append a u)⟩
theorem occ_more {s w : Str} (u : Str) {j : Nat} (h : j + w.length ≤ s.length) : Lib.occAt (s ++ u) w j = Lib.occAt s w j := by
  unfold Lib.occAt
  rw [drop_more (by omega)]
  exact pre_more u (by rw [List.length_drop]; omega)
theorem index_more {s w : Str} (hw : w ≠ []) (h : 0 ≤ Lib.index s w) (u : Str) : Lib.index (s ++ u) w = Lib.index s w := by
  obtain ⟨i, hi, hl, ho, hn⟩ := index_some h hw
  rw [hi]
  exact Lib.index_first (by rw [List.length_append]; omega) (by rw [occ_more u hl]; exact ho) (fun j hj => by rw [occ_more u (by omega)]; exact hn j hj)
theorem occ_none {s w : Str} (h : ¬ 0 ≤ Lib.index s w) : ∀ j, j ≤ s.length → Lib.occAt s w j = false := by
  intro j
  induction j using Nat.strongRecOn with
  | _ j ih =>
    intro hj
    rw [Bool.eq_false_iff]
    intro ho
    have := Lib.index_first hj ho (fun i hi => ih i hi (by omega))
    omega
theorem index_tail {s w : Str} (hw : w ≠ []) (h : ¬ 0 ≤ Lib.index s w) (u : Str) (k : Nat) (hk : w.length ≤ k + 1) :
    Lib.index (s ++ u) w = if 0 ≤ Lib.index (s.drop (s.length - k) ++ u) w then ((s.length - k : Nat) : Int) + Lib.index (s.drop (s.length - k) ++ u) w else -1 := by
  have hno := occ_none h
  have hdd : s.length - k = s.length - k := rfl
  obtain ⟨d, hd⟩ : ∃ d, d = s.length - k := ⟨_, rfl⟩
  rw [← hd]
  have hdl : d ≤ s.length := by omega
  have hocc : ∀ i, Lib.occAt (s ++ u) w (d + i) = Lib.occAt (s.drop d ++ u) w i := by
    intro i; unfold Lib.occAt; rw [← drop_more hdl, List.drop_drop]
  have hlow : ∀ j, j < d → Lib.occAt (s ++ u) w j = false := fun j hj => by rw [occ_more u (by omega)]; exact hno j (by omega)
  split
  · rename_i h0
    obtain ⟨i, hi, hl, ho, hn⟩ := index_some h0 hw
    rw [hi]
    rw [List.length_append, List.length_drop] at hl
    have := Lib.index_first (s := s ++ u) (sub := w) (i := d + i) (by rw [List.length_append]; omega) (by rw [hocc]; exact ho) (fun j hj => by
      rcases Nat.lt_or_ge j d with h | h
      · exact hlow j h
      · obtain ⟨q, rfl⟩ := Nat.exists_eq_add_of_le h
        rw [hocc]
        exact hn q (by omega))
    rw [this]
    omega
  · rename_i h0
    refine Lib.index_none fun j hj => ?_
    rw [List.length_append] at hj
    rcases Nat.lt_or_ge j d with h | h
    · exact hlow j h
    · obtain ⟨q, rfl⟩ := Nat.exists_eq_add_of_le h
      rw [hocc]
      exact occ_none h0 q (by rw [List.length_append, List.length_drop]; omega)
theorem byte_index (c : UInt8) : ∀ s : Str, Lib.indexByte s c = Lib.index s [c]
  | [] => rfl
  | b :: s => by
    have h : List.isPrefixOf [c] (b :: s) = (b == c) := by
      show (c == b && true) = (b == c)
      rw [Bool.and_true, Bool.eq_iff_iff, beq_iff_eq, beq_iff_eq]
      exact eq_comm
    rw [Lib.indexByte, Lib.index, byte_index c s, h]

/-! one step -/
def extM (m : MkM) (u : Str) (c : Bool) : MkM := { m with buf := m.buf ++ u, closed := c }
theorem ext_kin (m : MkM) (u : Str) (c : Bool) : Kin m (extM m u c) := ⟨rfl, rfl, rfl⟩
theorem done_more {m : MkM} {n : Nat} (h : n ≤ m.buf.length) (u : Str) (c : Bool) : doneF (extM m u c) n = ((doneF m n).1, true, false, extM (doneF m n).2.2.2 u c) := by
  show (bareM m.kind, true, false, ({ extM m u c with buf := (m.buf ++ u).drop n, pass := 0 } : MkM)) = _
  rw [drop_more h]
  rfl
theorem no_both {s : Str} {i : Nat} (h : Lib.occAt s comEnd i = true) : Lib.occAt s comEnd2 i = false := by
  unfold Lib.occAt at h ⊢
  rw [Bool.eq_false_iff]
  intro h2
  exact absurd (List.prefix_of_prefix_length_le (List.isPrefixOf_iff_prefix.1 h) (List.isPrefixOf_iff_prefix.1 h2) (by decide)) (by decide)
theorem later_more (m : MkM) (hc : m.closed = false) (u : Str) (c : Bool) :
    ((comLater m).2.1 = true ∧ (comLater m).2.2.2.err = m.err ∧ comLater (extM m u c) = ((comLater m).1, (comLater m).2.1, (comLater m).2.2.1, extM (comLater m).2.2.2 u c)) ∨
    (comLater m = (noM, false, true, { m with buf := m.buf.drop (m.buf.length - 3) }) ∧ comLater (extM m u c) = comLater (extM { m with buf := m.buf.drop (m.buf.length - 3) } u c)) := by
  obtain ⟨s, hs⟩ : ∃ s, s = m.buf := ⟨_, rfl⟩
  have h1 : comEnd ≠ [] := by decide
  have h2 : comEnd2 ≠ [] := by decide
  have l1 : comEnd.length = 3 := rfl
  have l2 : comEnd2.length = 4 := rfl
  have hb : (extM m u c).buf = s ++ u := by rw [hs]; rfl
  unfold comLater
  simp only [hb, ← hs]
  by_cases ha : 0 ≤ Lib.index s comEnd ∧ (Lib.index s comEnd2 < 0 ∨ Lib.index s comEnd < Lib.index s comEnd2)
  · obtain ⟨i, hi, hil, hio, hin⟩ := index_some ha.1 h1
    have hi' := index_more h1 ha.1 u
    have hcond : 0 ≤ Lib.index (s ++ u) comEnd ∧ (Lib.index (s ++ u) comEnd2 < 0 ∨ Lib.index (s ++ u) comEnd < Lib.index (s ++ u) comEnd2) := by
      rw [hi', hi]
      refine ⟨by omega, ?_⟩
      by_cases hb0 : 0 ≤ Lib.index s comEnd2
      · rw [index_more h2 hb0 u]; omega
      · by_cases hb1 : 0 ≤ Lib.index (s ++ u) comEnd2
        · obtain ⟨j, hj, hjl, hjo, hjn⟩ := index_some hb1 h2
          have htl := index_tail h2 hb0 u 3 (by rw [l2]; omega)
          rw [hj] at htl
          right
          rw [hj]
          have hge : (i : Int) ≤ j := by
            split at htl
            · omega
            · omega
          have hne : i ≠ j := by
            rintro rfl
            have := no_both (s := s ++ u) (i := i) (by rw [occ_more u hil]; exact hio)
            rw [this] at hjo
            cases hjo
          omega
        · left; omega
    rw [if_pos ha, if_pos hcond, hi', hi]
    refine .inl ⟨rfl, rfl, ?_⟩
    exact done_more (by rw [← hs]; simp only [Int.toNat_natCast]; omega) u c
  · by_cases hb0 : 0 ≤ Lib.index s comEnd2
    · obtain ⟨j, hj, hjl, hjo, hjn⟩ := index_some hb0 h2
      have hj' := index_more h2 hb0 u
      have hcond : ¬ (0 ≤ Lib.index (s ++ u) comEnd ∧ (Lib.index (s ++ u) comEnd2 < 0 ∨ Lib.index (s ++ u) comEnd < Lib.index (s ++ u) comEnd2)) := by
        rintro ⟨q1, q2⟩
        rw [hj'] at q2
        by_cases ha0 : 0 ≤ Lib.index s comEnd
        · rw [index_more h1 ha0 u] at q2
          exact ha ⟨ha0, q2⟩
        · have htl := index_tail h1 ha0 u 2 (by rw [l1]; omega)
          split at htl
          · omega
          · omega
      rw [if_neg ha, if_neg hcond, if_pos hb0, if_pos (by rw [hj']; exact hb0), hj', hj]
      refine .inl ⟨rfl, rfl, ?_⟩
      exact done_more (by rw [← hs]; simp only [Int.toNat_natCast]; omega) u c
    · have ha0 : ¬ 0 ≤ Lib.index s comEnd := fun h => ha ⟨h, .inl (by omega)⟩
      rw [if_neg ha, if_neg hb0, if_neg (by rw [hc]; decide)]
      refine .inr ⟨rfl, ?_⟩
      have t1 := index_tail h1 ha0 u 3 (by rw [l1]; omega)
      have t2 := index_tail h2 hb0 u 3 (by rw [l2]; omega)
      obtain ⟨d, hd⟩ : ∃ d, d = s.length - 3 := ⟨_, rfl⟩
      rw [← hd] at t1 t2
      rw [t1, t2]
      have hb2 : (extM { m with buf := s.drop (s.length - 3) } u c).buf = s.drop d ++ u := by rw [hd]; rfl
      rw [hb2]
      have hdl : d ≤ s.length := by omega
      have hdr : ∀ k, (s ++ u).drop (d + k) = (s.drop d ++ u).drop k := fun k => by rw [← drop_more hdl, List.drop_drop]
      have hdone : ∀ k, doneF (extM m u c) (d + k) = doneF (extM { m with buf := s.drop (s.length - 3) } u c) k := fun k => by
        show (bareM m.kind, true, false, ({ extM m u c with buf := (m.buf ++ u).drop (d + k), pass := 0 } : MkM)) = (bareM m.kind, true, false, ({ extM m u c with buf := (s.drop (s.length - 3) ++ u).drop k, pass := 0 } : MkM))
        rw [← hs, hdr, hd]
      have ga := Lib.index_ge (s.drop d ++ u) comEnd
      have gb := Lib.index_ge (s.drop d ++ u) comEnd2
      generalize Lib.index (s.drop d ++ u) comEnd = a at *
      generalize Lib.index (s.drop d ++ u) comEnd2 = b at *
      have hlen : (s ++ u).length = d + (s.drop d ++ u).length := by rw [List.length_append, List.length_append, List.length_drop]; omega
      by_cases p1 : 0 ≤ a ∧ (b < 0 ∨ a < b)
      · have e1 : (if 0 ≤ a then (d : Int) + a else -1) = (d : Int) + a := if_pos p1.1
        rw [if_pos p1, e1, if_pos ⟨by omega, by split <;> omega⟩]
        rw [show ((d : Int) + a).toNat + 3 = d + (a.toNat + 3) from by omega]
        exact hdone _
      · rw [if_neg p1]
        by_cases p2 : 0 ≤ b
        · rw [if_pos p2, if_pos p2, if_neg, if_pos (by omega)]
          · rw [show ((d : Int) + b).toNat + 4 = d + (b.toNat + 4) from by omega]
            exact hdone _
          · rintro ⟨q1, q2⟩
            split at q1
            · rename_i q0
              rw [if_pos q0] at q2
              exact p1 ⟨q0, by omega⟩
            · omega
        · have p3 : ¬ 0 ≤ a := fun h => p1 ⟨h, .inl (by omega)⟩
          rw [if_neg p2, if_neg p2, if_neg p3, if_neg (by omega), if_neg (by omega)]
          show (if c = true then _ else _) = (if c = true then _ else _)
          cases c
          · rw [if_neg (by decide), if_neg (by decide)]
            show (noM, false, true, ({ extM m u false with buf := (s ++ u).drop ((s ++ u).length - 3) } : MkM)) = (noM, false, true, ({ extM m u false with buf := (s.drop d ++ u).drop ((s.drop d ++ u).length - 3) } : MkM))
            have : (s ++ u).length - 3 = d + ((s.drop d ++ u).length - 3) := by
              rw [List.length_append, List.length_append, List.length_drop]
              omega
            rw [this, hdr]
          · rw [if_pos rfl, if_pos rfl, hlen]
            exact hdone _

/-- how a step goes on when more text comes -/
inductive Flow (m : MkM) (u : Str) (c : Bool) : Prop
  | same (h : (oneF m).2.1 = true ∨ (oneF m).2.2.1 = false) (he : (oneF m).2.2.2.err = 0) (e : oneF (extM m u c) = ((oneF m).1, (oneF m).2.1, (oneF m).2.2.1, extM (oneF m).2.2.2 u c))
  | wrong (h1 : (oneF m).2.1 = false) (h2 : (oneF m).2.2.1 = true) (he : (oneF m).2.2.2.err ≠ 0) (h3 : (oneF (extM m u c)).2.1 = false) (h4 : (oneF (extM m u c)).2.2.1 = true) (h5 : (oneF (extM m u c)).2.2.2.err = (oneF m).2.2.2.err)
  | wait (h1 : (oneF m).2.1 = false) (h2 : (oneF m).2.2.1 = true) (he : (oneF m).2.2.2.err = 0) (e : oneF (extM m u c) = oneF (extM (oneF m).2.2.2 u c))
  | text (t t' : Str) (m1 m1' : MkM) (st st' : Bool) (e : oneF m = (textM t, true, st, m1)) (he : m1.err = 0) (hq : oneF m1 = (noM, false, true, m1) ∨ ∃ x, oneF m1 = (x, false, true, m1))
      (e' : oneF (extM m u c) = (textM (t ++ t'), true, st', m1'))
      (h : (∃ st'', oneF (extM m1 u c) = (textM t', true, st'', m1')) ∨ (t' = [] ∧ m1' = extM m1 u c) ∨ (t' = [] ∧ (oneF (extM m1 u c)).2.1 = false ∧ (oneF (extM m1 u c)).2.2.1 = false ∧ (oneF (extM m1 u c)).2.2.2 = m1'))

theorem tagsF_good_len : ∀ (n : Nat) (al : List (Str × Str)) (r : Str), r.length ≤ n → ∀ al' sl r', tagsF al r = some (al', sl, r') → r'.length ≤ r.length := by
  intro n
  induction n with
  | zero =>
    intro al r hn al' sl r' h
    obtain rfl : r = [] := List.eq_nil_of_length_eq_zero (by omega)
    rw [tagsF] at h
    cases h
  | succ n ih =>
    intro al r hn al' sl r' h
    rw [tagsF] at h
    have h0 := dropWhile_len gapB r
    cases hd : r.dropWhile gapB with
    | nil => rw [hd] at h; cases h
    | cons c r1 =>
      rw [hd] at h h0
      simp only [List.length_cons] at h h0
      by_cases h62 : c = 62
      · rw [if_pos h62] at h
        simp only [Option.some.injEq, Prod.mk.injEq] at h
        rw [← h.2.2]
        omega
      · rw [if_neg h62] at h
        cases ha : attrF (c :: r1) with
        | none => rw [ha] at h; cases h
        | some p =>
          obtain ⟨a, r2⟩ := p
          rw [ha] at h
          simp only at h
          by_cases hl : r2.length < r.length
          · rw [if_pos hl] at h
            have := ih _ r2 (by omega) _ _ _ h
            omega
          · rw [if_neg hl] at h; cases h
theorem tag_more (m : MkM) (e : Bool) (hc : m.closed = false) (he : m.err = 0) (u : Str) (c : Bool) :
    ((tagF m e).2.1 = true ∧ (tagF m e).2.2.2.err = 0 ∧ tagF (extM m u c) e = ((tagF m e).1, (tagF m e).2.1, (tagF m e).2.2.1, extM (tagF m e).2.2.2 u c)) ∨
    ((tagF m e).2.1 = false ∧ (tagF m e).2.2.1 = true ∧ (tagF m e).2.2.2.err ≠ 0 ∧ (tagF (extM m u c) e).2.1 = false ∧ (tagF (extM m u c) e).2.2.1 = true ∧ (tagF (extM m u c) e).2.2.2.err = (tagF m e).2.2.2.err) ∨
    tagF m e = (noM, false, true, m) := by
  obtain ⟨s, hs⟩ : ∃ s, s = m.buf := ⟨_, rfl⟩
  have hb : (extM m u c).buf = s ++ u := by rw [hs]; rfl
  have hlt : (s.take 2049).length = min 2049 s.length := List.length_take
  obtain ⟨o, ho⟩ : ∃ o, o = tagF m e := ⟨_, rfl⟩
  obtain ⟨o', ho'⟩ : ∃ o', o' = tagF (extM m u c) e := ⟨_, rfl⟩
  rw [← ho, ← ho']
  unfold tagF at ho ho'
  simp only [← hs] at ho
  simp only [hb] at ho'
  by_cases h0 : 0 ≤ (parseF (s.take 2049) e).2.1
  · have hst : ∃ v, (s ++ u).take 2049 = s.take 2049 ++ v := by
      rw [List.take_append]
      exact ⟨_, rfl⟩
    obtain ⟨v, hv⟩ := hst
    obtain ⟨p1, p2⟩ := parseF_more h0 v
    rw [hv, p1] at ho'
    have ec : ∀ k : Nat, ((parseF (s.take 2049) e).2.1 > 2048 ∨ ((parseF (s.take 2049) e).2.1 < 0 ∧ 2048 < k)) ↔ (parseF (s.take 2049) e).2.1 > 2048 := fun k => ⟨fun h => by omega, fun h => .inl h⟩
    simp only [ec] at ho ho'
    obtain ⟨er, her⟩ : ∃ er, er = if (parseF (s.take 2049) e).2.1 > 2048 then (41 : Int) else (parseF (s.take 2049) e).2.2 := ⟨_, rfl⟩
    rw [← her] at ho ho'
    by_cases hr : er = 0
    · rw [if_neg (fun h => h hr), if_neg (by omega)] at ho ho'
      have hd : (s ++ u).drop (parseF (s.take 2049) e).2.1.toNat = s.drop (parseF (s.take 2049) e).2.1.toNat ++ u := drop_more (by omega) u
      rw [hd] at ho'
      rw [ho, ho']
      refine .inl ⟨rfl, ?_, ?_⟩
      · cases e
        · exact he
        · exact he
      · cases e <;> rfl
    · rw [if_pos hr] at ho ho'
      rw [ho, ho']
      exact .inr (.inl ⟨rfl, rfl, hr, rfl, rfl, rfl⟩)
  · have hneg : (parseF (s.take 2049) e).2.2 = 0 := by
      unfold parseF at h0 ⊢
      cases hu : untilF signT ((s.take 2049).drop (if e = true then 2 else 1)) with
      | none => rfl
      | some p =>
        obtain ⟨nm, r⟩ := p
        have hl := untilF_len hu
        rw [List.length_drop] at hl
        rw [hu] at h0
        simp only at h0 ⊢
        cases ht : tagsF [] r with
        | none => rfl
        | some q =>
          obtain ⟨al, sl, r2⟩ := q
          exfalso
          have := (tagsF_good_len _ [] r (Nat.le_refl _) al sl r2 ht)
          rw [ht] at h0
          simp only at h0
          apply h0
          repeat' split
          all_goals show (0 : Int) ≤ ((s.take 2049).length : Int) - r2.length; omega
    by_cases hl : 2048 < (s.take 2049).length
    · have hst : (s ++ u).take 2049 = s.take 2049 := by
        rw [List.take_append_of_le_length (by omega)]
      rw [hst] at ho'
      have hcnd : (parseF (s.take 2049) e).2.1 > 2048 ∨ ((parseF (s.take 2049) e).2.1 < 0 ∧ 2048 < (s.take 2049).length) := .inr ⟨by omega, hl⟩
      have h41 : (41 : Int) ≠ 0 := by decide
      rw [if_pos hcnd, if_pos h41] at ho ho'
      rw [ho, ho']
      exact .inr (.inl ⟨rfl, rfl, h41, rfl, rfl, rfl⟩)
    · have hcnd : ¬ ((parseF (s.take 2049) e).2.1 > 2048 ∨ ((parseF (s.take 2049) e).2.1 < 0 ∧ 2048 < (s.take 2049).length)) := by omega
      rw [if_neg hcnd, hneg, if_neg (fun h => h rfl), if_pos (by omega), hc, if_neg (by decide)] at ho
      rw [ho]
      exact .inr (.inr rfl)
theorem com_more (m : MkM) (hc : m.closed = false) (he : m.err = 0) (hp : m.pass = 1) (u : Str) (c : Bool) : Flow m u c := by
  have one : ∀ m : MkM, m.pass = 1 → oneF m = comF m := fun m h => by
    unfold oneF
    rw [if_neg (by rw [h]; decide)]
    unfold passF
    rw [if_pos h]
  have lat : ∀ m : MkM, m.closed = false → m.err = 0 → m.pass = 1 → m.fresh = false → ∀ m0 : MkM, oneF m0 = comLater m → oneF (extM m0 u c) = comLater (extM m u c) → Flow m0 u c := fun m hc he hp hf m0 e1 e2 => by
    rcases later_more m hc u c with ⟨h1, h2, h3⟩ | ⟨h1, h2⟩
    · exact .same (.inl (by rw [e1]; exact h1)) (by rw [e1]; exact h2.trans he) (by rw [e2, h3, e1])
    · refine .wait (by rw [e1, h1]) (by rw [e1, h1]) (by rw [e1, h1]; exact he) ?_
      rw [e2, h2, e1, h1]
      refine Eq.symm ((one (extM { m with buf := m.buf.drop (m.buf.length - 3) } u c) hp).trans ?_)
      unfold comF
      rw [if_neg (by show ¬ m.fresh = true; rw [hf]; decide)]
  cases hf : m.fresh
  · refine lat m hc he hp hf m ?_ ?_
    · rw [one m hp]; unfold comF; rw [if_neg (by rw [hf]; decide)]
    · rw [one _ (show (extM m u c).pass = 1 from hp)]; unfold comF; rw [if_neg (by show ¬ m.fresh = true; rw [hf]; decide)]
  · have e1 := one m hp
    have e2 := one (extM m u c) hp
    unfold comF at e1 e2
    rw [if_pos hf] at e1
    rw [if_pos (show (extM m u c).fresh = true from hf), show (extM m u c).buf = m.buf ++ u from rfl] at e2
    by_cases h1 : ([62] : Str).isPrefixOf m.buf = true
    · have hl := (List.isPrefixOf_iff_prefix.1 h1).length_le
      simp only [List.length_cons, List.length_nil] at hl
      rw [if_pos h1] at e1
      rw [pre_more u (by simp only [List.length_cons, List.length_nil]; omega), if_pos h1, done_more (by omega)] at e2
      exact .same (.inl (by rw [e1]; rfl)) (by rw [e1]; exact he) (by rw [e2, e1]; rfl)
    · rw [if_neg h1] at e1
      by_cases h2 : ([45, 62] : Str).isPrefixOf m.buf = true
      · have hl := (List.isPrefixOf_iff_prefix.1 h2).length_le
        simp only [List.length_cons, List.length_nil] at hl
        rw [if_pos h2] at e1
        rw [pre_more u (by simp only [List.length_cons, List.length_nil]; omega), if_neg h1, pre_more u (by simp only [List.length_cons, List.length_nil]; omega), if_pos h2, done_more (by omega)] at e2
        exact .same (.inl (by rw [e1]; rfl)) (by rw [e1]; exact he) (by rw [e2, e1]; rfl)
      · rw [if_neg h2] at e1
        by_cases h3 : m.closed = false ∧ (m.buf = [] ∨ m.buf = [45])
        · rw [if_pos h3] at e1
          exact .wait (by rw [e1]) (by rw [e1]) (by rw [e1]; exact he) (by rw [e1])
        · rw [if_neg h3] at e1
          have hne : m.buf ≠ [] := fun h => h3 ⟨hc, .inl h⟩
          have hne2 : m.buf ≠ [45] := fun h => h3 ⟨hc, .inr h⟩
          have hlen : 1 ≤ m.buf.length := List.length_pos_iff.2 hne
          have q2 : ¬ ([45, 62] : Str).isPrefixOf (m.buf ++ u) = true := by
            by_cases hl2 : 2 ≤ m.buf.length
            · rw [pre_more u (by simp only [List.length_cons, List.length_nil]; omega)]; exact h2
            · match hm : m.buf, hlen with
              | [x], _ =>
                rw [hm] at hne2
                intro hh
                have := List.isPrefixOf_iff_prefix.1 hh
                rw [List.cons_append, List.cons_prefix_cons] at this
                exact hne2 (by rw [← this.1])
              | _ :: _ :: _, _ => rw [hm] at hl2; simp only [List.length_cons] at hl2; omega
          have q3 : ¬ ((extM m u c).closed = false ∧ (m.buf ++ u = [] ∨ m.buf ++ u = [45])) := by
            rintro ⟨-, hh | hh⟩
            · exact hne (List.append_eq_nil_iff.1 hh).1
            · match hm : m.buf, hlen with
              | x :: r, _ =>
                rw [hm, List.cons_append, List.cons.injEq, List.append_eq_nil_iff] at hh
                rw [hm, hh.1, hh.2.1] at hne2
                exact hne2 rfl
          rw [pre_more u (by simp only [List.length_cons, List.length_nil]; omega), if_neg h1, if_neg q2, if_neg q3] at e2
          exact lat { m with fresh := false } hc he hp rfl m e1 e2
theorem cd_more (m : MkM) (hc : m.closed = false) (he : m.err = 0) (h0 : m.pass ≠ 0) (h1 : m.pass ≠ 1) (h2 : m.pass ≠ 2) (u : Str) (c : Bool) : Flow m u c := by
  have one : ∀ m : MkM, m.pass ≠ 0 → m.pass ≠ 1 → m.pass ≠ 2 → oneF m = cdF m := fun m h0 h1 h2 => by
    unfold oneF
    rw [if_neg h0]
    unfold passF
    rw [if_neg h1, if_neg h2]
  obtain ⟨s, hs⟩ : ∃ s, s = m.buf := ⟨_, rfl⟩
  have l1 : cdEnd.length = 3 := rfl
  have hne : cdEnd ≠ [] := by decide
  have e1 := one m h0 h1 h2
  have e2 := one (extM m u c) h0 h1 h2
  unfold cdF at e1 e2
  rw [show (extM m u c).buf = s ++ u from by rw [hs]; rfl] at e2
  rw [← hs] at e1
  simp only at e1 e2
  by_cases hn : 0 ≤ Lib.index s cdEnd
  · obtain ⟨i, hi, hil, -, -⟩ := index_some hn hne
    rw [if_pos hn] at e1
    rw [index_more hne hn u, if_pos hn] at e2
    rw [hi] at e1 e2
    simp only [Int.toNat_natCast] at e1 e2
    simp only [List.take_append_of_le_length (show i ≤ s.length by omega), drop_more (show i + 3 ≤ s.length by omega)] at e2
    refine .same (.inr (by rw [e1])) (by rw [e1]; exact he) ?_
    rw [e1, e2]
    rfl
  · rw [if_neg hn, if_neg (by rw [hc]; decide)] at e1
    have hst : decide (m.pass ≠ 0) = true := decide_eq_true h0
    rw [hst] at e1
    obtain ⟨d, hd⟩ : ∃ d, d = s.length - 2 := ⟨_, rfl⟩
    rw [← hd] at e1
    by_cases ht : s.take d = []
    · have hd0 : d = 0 := by
        have := congrArg List.length ht
        rw [List.length_take, List.length_nil] at this
        omega
      rw [hd0] at e1
      have em : ({ m with buf := s.drop 0 } : MkM) = m := by rw [List.drop_zero, hs]
      rw [em] at e1
      exact .wait (by rw [e1]; rfl) (by rw [e1]) (by rw [e1]; exact he) (by rw [e1])
    · have hd2 : s.length = d + 2 := by
        have : d ≠ 0 := fun h => ht (by rw [h]; rfl)
        omega
      have htd : decide (s.take d ≠ []) = true := decide_eq_true ht
      rw [htd] at e1
      have hxl : (s.drop d).length = 2 := by rw [List.length_drop]; omega
      have hq0 : ¬ 0 ≤ Lib.index (s.drop d) cdEnd := fun h => by
        obtain ⟨i, -, hil, -⟩ := index_some h hne
        omega
      have hq : oneF { m with buf := s.drop d } = (textM [], false, true, { m with buf := s.drop d }) := by
        rw [one { m with buf := s.drop d } h0 h1 h2]
        unfold cdF
        simp only [if_neg hq0, hc, hxl, List.take_zero, List.drop_zero, Nat.sub_self, hst]
        rfl
      have e3 := one (extM { m with buf := s.drop d } u c) h0 h1 h2
      unfold cdF at e3
      rw [show (extM { m with buf := s.drop d } u c).buf = s.drop d ++ u from rfl] at e3
      simp only at e3
      have t1 := index_tail hne hn u 2 (by rw [l1]; omega)
      rw [← hd] at t1
      rw [t1] at e2
      have hdr : ∀ k, (s ++ u).drop (d + k) = (s.drop d ++ u).drop k := fun k => by rw [← drop_more (show d ≤ s.length by omega), List.drop_drop]
      have htk : ∀ k, (s ++ u).take (d + k) = s.take d ++ (s.drop d ++ u).take k := fun k => by
        conv => lhs; rw [← List.take_append_drop d s, List.append_assoc]
        rw [List.take_append, List.take_of_length_le (by rw [List.length_take]; omega), List.length_take, show d + k - min d s.length = k from by omega]
      have hcat : ∀ t' : Str, decide (s.take d ++ t' ≠ []) = true := fun t' => decide_eq_true (fun h => ht (List.append_eq_nil_iff.1 h).1)
      by_cases hn2 : 0 ≤ Lib.index (s.drop d ++ u) cdEnd
      · rw [if_pos hn2, if_pos (by omega)] at e2
        rw [if_pos hn2] at e3
        obtain ⟨i, hi, -⟩ := index_some hn2 hne
        rw [hi] at e2 e3
        simp only [show ((d : Int) + (i : Int)).toNat = d + i from by omega, Nat.add_assoc, htk, hdr, hcat] at e2
        simp only [Int.toNat_natCast] at e3
        refine .text (s.take d) ((s.drop d ++ u).take i) _ _ _ _ e1 he (.inr ⟨_, hq⟩) e2 ?_
        by_cases ht' : (s.drop d ++ u).take i = []
        · refine .inr (.inr ⟨ht', ?_⟩)
          rw [e3]
          exact ⟨decide_eq_false (fun h => h ht'), rfl, rfl⟩
        · exact .inl ⟨_, by rw [e3, decide_eq_true ht']; rfl⟩
      · rw [if_neg hn2, if_neg (by omega)] at e2
        rw [if_neg hn2] at e3
        cases c
        · rw [if_neg (by show ¬ false = true; decide)] at e2 e3
          have hlen : (s ++ u).length - 2 = d + ((s.drop d ++ u).length - 2) := by rw [List.length_append, List.length_append, hxl]; omega
          simp only [hlen, htk, hdr, hcat] at e2
          refine .text (s.take d) ((s.drop d ++ u).take ((s.drop d ++ u).length - 2)) _ _ _ _ e1 he (.inr ⟨_, hq⟩) e2 ?_
          by_cases ht' : (s.drop d ++ u).take ((s.drop d ++ u).length - 2) = []
          · refine .inr (.inl ⟨ht', ?_⟩)
            have h0 : (s.drop d ++ u).length - 2 = 0 := by
              have := congrArg List.length ht'
              rw [List.length_take, List.length_nil] at this
              omega
            rw [h0, List.drop_zero]
            rfl
          · exact .inl ⟨_, by rw [e3, decide_eq_true ht']; rfl⟩
        · rw [if_pos (by show true = true; rfl)] at e2 e3
          have hall : s ++ u = s.take d ++ (s.drop d ++ u) := by rw [← List.append_assoc, List.take_append_drop]
          simp only [hall, hcat] at e2
          refine .text (s.take d) (s.drop d ++ u) _ _ _ _ e1 he (.inr ⟨_, hq⟩) e2 ?_
          have ht' : s.drop d ++ u ≠ [] := fun h => by
            have := congrArg List.length h
            rw [List.length_append, hxl, List.length_nil] at this
            omega
          exact .inl ⟨_, by rw [e3, decide_eq_true ht']; rfl⟩
theorem pass_more (m : MkM) (hc : m.closed = false) (he : m.err = 0) (h0 : m.pass ≠ 0) (u : Str) (c : Bool) : Flow m u c := by
  by_cases h1 : m.pass = 1
  · exact com_more m hc he h1 u c
  · by_cases h2 : m.pass = 2
    · have one : ∀ m : MkM, m.pass = 2 → oneF m = if 0 ≤ Lib.indexByte m.buf 62 then doneF m ((Lib.indexByte m.buf 62).toNat + 1) else if m.closed then doneF m m.buf.length else (noM, false, true, { m with buf := [] }) := fun m h => by
        unfold oneF
        rw [if_neg (by rw [h]; decide)]
        unfold passF
        rw [if_neg (by rw [h]; decide), if_pos h]
      have e1 := one m h2
      have e2 := one (extM m u c) h2
      rw [byte_index] at e1
      rw [byte_index, show (extM m u c).buf = m.buf ++ u from rfl] at e2
      by_cases hn : 0 ≤ Lib.index m.buf [62]
      · obtain ⟨i, hi, hil, -⟩ := index_some hn (by decide)
        rw [if_pos hn] at e1
        rw [index_more (by decide) hn u, if_pos hn] at e2
        rw [hi] at e1 e2
        simp only [List.length_cons, List.length_nil] at hil
        rw [done_more (by simp only [Int.toNat_natCast]; omega)] at e2
        exact .same (.inl (by rw [e1]; rfl)) (by rw [e1]; exact he) (by rw [e1, e2]; rfl)
      · rw [if_neg hn, if_neg (by rw [hc]; decide)] at e1
        refine .wait (by rw [e1]) (by rw [e1]) (by rw [e1]; exact he) ?_
        have e3 := one (extM { m with buf := [] } u c) h2
        rw [byte_index, show (extM { m with buf := [] } u c).buf = u from rfl] at e3
        rw [e1]
        show oneF (extM m u c) = oneF (extM { m with buf := [] } u c)
        rw [e2, e3]
        have t1 := index_tail (by decide) hn u 0 (by decide)
        rw [Nat.sub_zero, List.drop_length, List.nil_append] at t1
        rw [t1]
        by_cases hn2 : 0 ≤ Lib.index u [62]
        · rw [if_pos hn2, if_pos (by omega), if_pos hn2]
          have hd : ∀ k, (m.buf ++ u).drop (m.buf.length + k) = u.drop k := fun k => by rw [List.drop_append, List.drop_of_length_le (by omega), List.nil_append, Nat.add_sub_cancel_left]
          show (bareM m.kind, true, false, ({ extM m u c with buf := (m.buf ++ u).drop (((m.buf.length : Int) + Lib.index u [62]).toNat + 1), pass := 0 } : MkM)) = (bareM m.kind, true, false, ({ extM m u c with buf := u.drop ((Lib.index u [62]).toNat + 1), pass := 0 } : MkM))
          rw [show ((m.buf.length : Int) + Lib.index u [62]).toNat + 1 = m.buf.length + ((Lib.index u [62]).toNat + 1) from by omega, hd]
        · rw [if_neg hn2, if_neg (by decide), if_neg hn2]
          cases c
          · rfl
          · show (bareM m.kind, true, false, ({ extM m u true with buf := (m.buf ++ u).drop (m.buf ++ u).length, pass := 0 } : MkM)) = (bareM m.kind, true, false, ({ extM m u true with buf := u.drop u.length, pass := 0 } : MkM))
            rw [List.drop_length, List.drop_length]
    · exact cd_more m hc he h0 h1 h2 u c

theorem unless_vals (b : Bool) (k : Int) : unlessF b k = k ∨ unlessF b k = 1 := by unfold unlessF; cases b <;> simp
theorem look_vals (m : MkM) (s : Str) : lookF m s = 0 ∨ lookF m s = 1 ∨ lookF m s = 2 ∨ lookF m s = 3 ∨ (lookF m s = 4 ∧ 3 ≤ s.length) ∨ (lookF m s = 5 ∧ 4 ≤ s.length) ∨ lookF m s = 6 ∨ (lookF m s = 7 ∧ 9 ≤ s.length) ∨ lookF m s = 8 := by
  have hd : declF m s = 1 ∨ (declF m s = 5 ∧ 4 ≤ s.length) ∨ declF m s = 6 ∨ (declF m s = 7 ∧ 9 ≤ s.length) ∨ declF m s = 8 := by
    unfold declF
    split
    · rename_i h; exact .inr (.inl ⟨rfl, foldsF_long h⟩)
    · split
      · exact .inr (.inr (.inl rfl))
      · split
        · rename_i h; exact .inr (.inr (.inr (.inl ⟨rfl, (List.isPrefixOf_iff_prefix.1 h.1).length_le⟩)))
        · split
          · rcases unless_vals m.closed 8 with h | h
            · exact .inr (.inr (.inr (.inr h)))
            · exact .inl h
          · exact .inr (.inr (.inr (.inr rfl)))
  unfold lookF
  split
  · rcases ends_vals m s with h | h | h <;> simp [h]
  · match s, hd with
    | [], _ => rcases unless_vals m.closed 0 with h | h <;> simp [h]
    | [_], _ => rcases unless_vals m.closed 0 with h | h <;> simp [h]
    | a :: c :: r, hd =>
      simp only
      split
      · simp
      · split
        · simp
        · split
          · rcases hd with h | ⟨h, hl⟩ | h | ⟨h, hl⟩ | h
            · simp [h]
            · simp only [List.length_cons] at hl
              simp [h]; omega
            · simp [h]
            · simp only [List.length_cons] at hl
              simp [h]; omega
            · simp [h]
          · split
            · simp
            · match r with
              | [] => rcases unless_vals m.closed 0 with h | h <;> simp [h]
              | d :: r =>
                simp only
                split
                · simp
                · split
                  · simp
                  · simp
theorem step_more (m : MkM) (hc : m.closed = false) (he : m.err = 0) (h0 : m.pass = 0) (u : Str) (c : Bool) : Flow m u c := by
  have one : ∀ m : MkM, m.pass = 0 → oneF m = stepF m := fun m h => by unfold oneF; rw [if_pos h]
  have e1 := one m h0
  have e2 := one (extM m u c) h0
  obtain ⟨tm1, tm2⟩ := textF_more (ext_kin m u c) hc u _ m.buf (Nat.le_refl _)
  have tg := textF_again m _ m.buf (Nat.le_refl _)
  have tsp := (textF_spec m _ m.buf (Nat.le_refl _)).2
  obtain ⟨p, hp⟩ : ∃ p, p = textF m m.buf := ⟨_, rfl⟩
  rw [← hp] at tm1 tm2 tg tsp
  obtain ⟨t, r, is⟩ := p
  simp only at tm1 tm2 tg tsp
  have hk1 : textF { m with buf := r } r = ([], r, is) := by
    rw [textF_kin (m := m) (m' := { m with buf := r }) ⟨rfl, rfl, rfl⟩ rfl _ r (Nat.le_refl _)]; exact tg
  have hke : ∀ s, textF (extM { m with buf := r } u c) s = textF (extM m u c) s := fun s => textF_kin (m := extM m u c) (m' := extM { m with buf := r } u c) ⟨rfl, rfl, rfl⟩ rfl _ s (Nat.le_refl _)
  by_cases hw : is = 1
  · subst hw
    have tm := tm1 rfl
    obtain ⟨q, hq⟩ : ∃ q, q = textF (extM m u c) (r ++ u) := ⟨_, rfl⟩
    obtain ⟨t', r', is'⟩ := q
    rw [← hq] at tm
    have ho1 : oneF { m with buf := r } = (noM, false, true, { m with buf := r }) := by
      rw [one { m with buf := r } h0]
      unfold stepF
      simp only [hk1]
      rfl
    by_cases ht : t = []
    · subst ht
      have s1 : oneF m = (noM, false, true, { m with buf := r }) := by
        rw [e1]; unfold stepF; simp only [← hp]; rfl
      refine .wait (by rw [s1]) (by rw [s1]) (by rw [s1]; exact he) ?_
      rw [s1]
      show oneF (extM m u c) = oneF (extM { m with buf := r } u c)
      rw [e2, one _ (show (extM { m with buf := r } u c).pass = 0 from h0)]
      unfold stepF
      rw [show (extM m u c).buf = m.buf ++ u from rfl, show (extM { m with buf := r } u c).buf = r ++ u from rfl, hke, ← hq, tm]
      rfl
    · have s1 : oneF m = (textM t, true, false, { m with buf := r }) := by
        rw [e1]; unfold stepF; simp only [← hp]; rw [if_pos ht]
      have s2 : oneF (extM m u c) = (textM (t ++ t'), true, false, { extM m u c with buf := r' }) := by
        rw [e2]
        unfold stepF
        rw [show (extM m u c).buf = m.buf ++ u from rfl, tm]
        simp only
        rw [if_pos (fun h => ht (List.append_eq_nil_iff.1 h).1)]
      refine .text t t' _ _ _ _ s1 he (.inl ho1) s2 ?_
      by_cases ht' : t' = []
      · subst ht'
        refine .inr (.inl ⟨rfl, ?_⟩)
        -- nothing was read: what is left is all
        have ta := textF_start (extM m u c) _ (r ++ u) (Nat.le_refl _) (by rw [← hq])
        rw [← hq] at ta
        simp only at ta
        show ({ extM m u c with buf := r' } : MkM) = extM { m with buf := r } u c
        rw [ta]
        rfl
      · refine .inl ⟨false, ?_⟩
        rw [one _ (show (extM { m with buf := r } u c).pass = 0 from h0)]
        unfold stepF
        rw [show (extM { m with buf := r } u c).buf = r ++ u from rfl, hke, ← hq]
        simp only
        rw [if_pos ht']
        rfl
  · have tm := tm2 hw
    have hr : ∃ r0, r = 60 :: r0 ∧ lookF m (60 :: r0) = is ∧ is ≠ 0 := tsp.resolve_left hw
    obtain ⟨r0, hr0, hlk, hne⟩ := hr
    have hv := look_vals m (60 :: r0)
    rw [hlk, ← hr0] at hv
    by_cases ht : t = []
    · subst ht
      have s1 : oneF m = stepF m := e1
      have s2 : oneF (extM m u c) = stepF (extM m u c) := e2
      have e1' : stepF m = if is = 2 then tagF { m with buf := r } false else if is = 3 then tagF { m with buf := r } true else if is = 4 then (noM, false, false, { m with buf := r.drop 3 }) else if is = 5 then (noM, false, false, { m with pass := 1, kind := 4, fresh := true, buf := r.drop 4 }) else if is = 6 then (noM, false, false, { m with buf := r, pass := 2, kind := 5 }) else if is = 7 then (noM, false, false, { m with pass := 3, buf := r.drop 9 }) else if is = 8 then (noM, false, false, { m with buf := r, pass := 2, kind := 4 }) else (noM, false, true, { m with buf := r }) := by
        unfold stepF; simp only [← hp]; rfl
      have e2' : stepF (extM m u c) = if is = 2 then tagF (extM { m with buf := r } u c) false else if is = 3 then tagF (extM { m with buf := r } u c) true else if is = 4 then (noM, false, false, { extM m u c with buf := (r ++ u).drop 3 }) else if is = 5 then (noM, false, false, { extM m u c with pass := 1, kind := 4, fresh := true, buf := (r ++ u).drop 4 }) else if is = 6 then (noM, false, false, { extM m u c with buf := r ++ u, pass := 2, kind := 5 }) else if is = 7 then (noM, false, false, { extM m u c with pass := 3, buf := (r ++ u).drop 9 }) else if is = 8 then (noM, false, false, { extM m u c with buf := r ++ u, pass := 2, kind := 4 }) else (noM, false, true, { extM m u c with buf := r ++ u }) := by
        unfold stepF; rw [show (extM m u c).buf = m.buf ++ u from rfl, tm]; rfl
      rw [e1'] at s1
      rw [e2'] at s2
      have tag : ∀ e, oneF m = tagF { m with buf := r } e → oneF (extM m u c) = tagF (extM { m with buf := r } u c) e → Flow m u c := fun e k1 k2 => by
        rcases tag_more { m with buf := r } e hc he u c with ⟨a1, a2, a3⟩ | ⟨a1, a2, a3, a4, a5, a6⟩ | a1
        · exact .same (.inl (by rw [k1]; exact a1)) (by rw [k1]; exact a2) (by rw [k2, a3, k1])
        · exact .wrong (by rw [k1]; exact a1) (by rw [k1]; exact a2) (by rw [k1]; exact a3) (by rw [k2]; exact a4) (by rw [k2]; exact a5) (by rw [k2, k1]; exact a6)
        · refine .wait (by rw [k1, a1]) (by rw [k1, a1]) (by rw [k1, a1]; exact he) ?_
          rw [k1, a1]
          have e3 := one (extM { m with buf := r } u c) h0
          show oneF (extM m u c) = oneF (extM { m with buf := r } u c)
          rw [e2, e3]
          unfold stepF
          rw [show (extM m u c).buf = m.buf ++ u from rfl, tm, show (extM { m with buf := r } u c).buf = r ++ u from rfl, hke]
          have tk := (textF_more (ext_kin m u c) hc u _ r (Nat.le_refl _)).2 (by rw [tg]; exact hw)
          rw [tg] at tk
          rw [tk]
          rfl
      rcases hv with h | h | h | h | ⟨h, hl⟩ | ⟨h, hl⟩ | h | ⟨h, hl⟩ | h
      · exact absurd h hne
      · exact absurd h hw
      · subst h; exact tag false s1 s2
      · subst h; exact tag true s1 s2
      · subst h
        rw [drop_more hl] at s2
        exact .same (.inr (by rw [s1]; rfl)) (by rw [s1]; exact he) (by rw [s2, s1]; rfl)
      · subst h
        rw [drop_more hl] at s2
        exact .same (.inr (by rw [s1]; rfl)) (by rw [s1]; exact he) (by rw [s2, s1]; rfl)
      · subst h
        exact .same (.inr (by rw [s1]; rfl)) (by rw [s1]; exact he) (by rw [s2, s1]; rfl)
      · subst h
        rw [drop_more hl] at s2
        exact .same (.inr (by rw [s1]; rfl)) (by rw [s1]; exact he) (by rw [s2, s1]; rfl)
      · subst h
        exact .same (.inr (by rw [s1]; rfl)) (by rw [s1]; exact he) (by rw [s2, s1]; rfl)
    · have s1 : oneF m = (textM t, true, false, { m with buf := r }) := by
        rw [e1]; unfold stepF; simp only [← hp]; rw [if_pos ht]
      have s2 : oneF (extM m u c) = (textM t, true, false, { extM m u c with buf := r ++ u }) := by
        rw [e2]
        unfold stepF
        rw [show (extM m u c).buf = m.buf ++ u from rfl, tm]
        simp only
        rw [if_pos ht]
      exact .same (.inl (by rw [s1])) (by rw [s1]; exact he) (by rw [s2, s1]; rfl)
theorem one_more (m : MkM) (hc : m.closed = false) (he : m.err = 0) (u : Str) (c : Bool) : Flow m u c := by
  by_cases h0 : m.pass = 0
  · exact step_more m hc he h0 u c
  · exact pass_more m hc he h0 u c

/-! all steps -/
theorem drain_err {m : MkM} (h : m.err ≠ 0) : drainF m = ([], m) := drainF_none (readF_err h)
theorem drain_stop {m : MkM} (h : m.err = 0) (ht : (oneF m).2.1 = false) (hs : (oneF m).2.2.1 = true) : drainF m = ([], (oneF m).2.2.2) := drainF_none (readF_stop h ht hs)
theorem drain_told {m : MkM} (h : m.err = 0) (ht : (oneF m).2.1 = true) : drainF m = ((oneF m).1 :: (drainF (switchF (oneF m).2.2.2 (oneF m).1)).1, (drainF (switchF (oneF m).2.2.2 (oneF m).1)).2) := drainF_some (readF_told h ht)
theorem drain_go {m : MkM} (h : m.err = 0) (ht : (oneF m).2.1 = false) (hs : (oneF m).2.2.1 = false) : drainF m = drainF (oneF m).2.2.2 := by
  have e := readF_go h ht hs
  rcases h1 : readF (oneF m).2.2.2 with ⟨_ | x, m1⟩
  · rw [drainF_none (e.trans h1), drainF_none h1]
  · rw [drainF_some (e.trans h1), drainF_some h1]
theorem drain_eq {m m' : MkM} (h : m.err = 0) (h' : m'.err = 0) (e : oneF m = oneF m') : drainF m = drainF m' := by
  cases ht : (oneF m).2.1
  · cases hs : (oneF m).2.2.1
    · rw [drain_go h ht hs, drain_go h' (e ▸ ht) (e ▸ hs), e]
    · rw [drain_stop h ht hs, drain_stop h' (e ▸ ht) (e ▸ hs), e]
  · rw [drain_told h ht, drain_told h' (e ▸ ht), e]
/-- the same, texts side by side made one -/
def Alike (a b : List MarkD) : Prop := ∀ out, joinF out a = joinF out b
theorem joinF_append : ∀ (a out b : List MarkD), joinF out (a ++ b) = joinF (joinF out a) b
  | [], out, b => by rw [List.nil_append]; rfl
  | x :: a, out, b => by
    rw [List.cons_append, joinF, joinF]
    split
    · exact joinF_append a _ b
    · split
      · exact joinF_append a _ b
      · split
        · split
          · exact joinF_append a _ b
          · exact joinF_append a _ b
        · exact joinF_append a _ b
theorem Alike.refl (a : List MarkD) : Alike a a := fun _ => rfl
theorem Alike.trans {a b c : List MarkD} (h : Alike a b) (k : Alike b c) : Alike a c := fun o => (h o).trans (k o)
theorem Alike.symm {a b : List MarkD} (h : Alike a b) : Alike b a := fun o => (h o).symm
theorem Alike.append {a b a' b' : List MarkD} (h : Alike a b) (k : Alike a' b') : Alike (a ++ a') (b ++ b') := fun o => by
  rw [joinF_append, joinF_append, h o]; exact k _
theorem Alike.cons (x : MarkD) {a b : List MarkD} (h : Alike a b) : Alike (x :: a) (x :: b) := Alike.append (Alike.refl [x]) h
theorem alike_two (s t : Str) : Alike [textM s, textM t] [textM (s ++ t)] := fun out => by
  have j1 : ∀ (x : Str) out r, x = [] → joinF out (textM x :: r) = joinF out r := fun x out r h => by
    rw [joinF, if_neg (fun h => h rfl), if_pos (by exact h)]
  have j2 : ∀ (x : Str) (out : List MarkD) r y, x ≠ [] → out.getLast? = some y → y.kind = 1 → joinF out (textM x :: r) = joinF (out.dropLast ++ [{ y with text := y.text ++ x }]) r := fun x out r y h hy hk => by
    rw [joinF, if_neg (fun h => h rfl), if_neg (by exact h), hy]
    simp only [hk]
    rfl
  have j3 : ∀ (x : Str) (out : List MarkD) r, x ≠ [] → (∀ y, out.getLast? = some y → y.kind ≠ 1) → joinF out (textM x :: r) = joinF (out ++ [textM x]) r := fun x out r h hy => by
    rw [joinF, if_neg (fun h => h rfl), if_neg (by exact h)]
    cases hl : out.getLast? with
    | none => rfl
    | some y => simp only; rw [if_neg (hy y hl)]
  by_cases hs : s = []
  · subst hs; rw [j1 [] out _ rfl, List.nil_append]
  · by_cases ht : t = []
    · subst ht
      rw [List.append_nil]
      have : ∀ o, joinF o [textM []] = o := fun o => by rw [j1 [] o _ rfl]; rfl
      rw [show [textM s, textM []] = [textM s] ++ [textM []] from rfl, joinF_append, this]
    · have hst : s ++ t ≠ [] := fun h => hs (List.append_eq_nil_iff.1 h).1
      by_cases hy : ∃ y, out.getLast? = some y ∧ y.kind = 1
      · obtain ⟨y, hy, hk⟩ := hy
        rw [j2 s out _ y hs hy hk, j2 (s ++ t) out _ y hst hy hk, j2 t _ _ { y with text := y.text ++ s } ht (by rw [List.getLast?_concat]) hk, List.dropLast_concat]
        simp only [List.append_assoc]
      · have hy' : ∀ y, out.getLast? = some y → y.kind ≠ 1 := fun y h hk => hy ⟨y, h, hk⟩
        rw [j3 s out _ hs hy', j3 (s ++ t) out _ hst hy', j2 t _ _ (textM s) ht (by rw [List.getLast?_concat]) rfl, List.dropLast_concat]
        rfl
def LikeO (o o' : List MarkD × MkM) : Prop := o.2.err = o'.2.err ∧ (o.2.err = 0 → Alike o.1 o'.1 ∧ o.2 = o'.2)
theorem one_closed (m : MkM) : (oneF m).2.2.2.closed = m.closed := by
  have hl : ∀ m : MkM, (comLater m).2.2.2.closed = m.closed := fun m => by
    unfold comLater doneF
    simp only
    repeat' split
    all_goals rfl
  have ht : ∀ (m : MkM) e, (tagF m e).2.2.2.closed = m.closed := fun m e => by
    unfold tagF
    simp only
    obtain ⟨er, her⟩ : ∃ er, er = if (parseF (m.buf.take 2049) e).2.1 > 2048 ∨ ((parseF (m.buf.take 2049) e).2.1 < 0 ∧ 2048 < (m.buf.take 2049).length) then (41 : Int) else (parseF (m.buf.take 2049) e).2.2 := ⟨_, rfl⟩
    rw [← her]
    by_cases hr : er = 0
    · rw [if_neg (fun h => h hr)]
      by_cases hn : (parseF (m.buf.take 2049) e).2.1 < 0
      · rw [if_pos hn]
        cases h : m.closed
        · first | exact h | (rw [if_neg (by decide)]; exact h) | rw [if_neg (by decide)]
        · first | exact h | (rw [if_pos rfl]; exact h) | rw [if_pos rfl]
      · rw [if_neg hn]
        cases e <;> rfl
    · rw [if_pos hr]
  unfold oneF
  split
  · unfold stepF
    simp only
    repeat' split
    all_goals first | rfl | exact ht _ _
  · unfold passF comF cdF doneF
    simp only
    repeat' split
    all_goals first | rfl | exact hl _
theorem switch_closed (m : MkM) (x : MarkD) : (switchF m x).closed = m.closed := by
  have hs : ∀ k, (setF m k x.name).closed = m.closed := fun k => by unfold setF; split <;> rfl
  unfold switchF
  repeat' split
  all_goals first | rfl | exact hs _
theorem switch_ext (m : MkM) (x : MarkD) (u : Str) (c : Bool) : switchF (extM m u c) x = extM (switchF m x) u c := by
  have hs : ∀ k, setF (extM m u c) k x.name = extM (setF m k x.name) u c := fun k => by unfold setF; split <;> rfl
  unfold switchF
  repeat' split
  all_goals first | rfl | exact hs _
theorem flow : ∀ (n : Nat) (m : MkM), doM m ≤ n → m.closed = false → m.err = 0 → ∀ u c, LikeO (drainF (extM m u c)) ((drainF m).1 ++ (drainF (extM (drainF m).2 u c)).1, (drainF (extM (drainF m).2 u c)).2) := by
  intro n
  induction n using Nat.strongRecOn with
  | _ n ih =>
    intro m hm hc he u c
    have hee : (extM m u c).err = 0 := he
    rcases one_more m hc he u c with ⟨h, he1, e⟩ | ⟨h1, h2, he1, h3, h4, h5⟩ | ⟨h1, h2, he1, e⟩ | ⟨t, t', m1, m1', st, st', e, he1, hq, e', h⟩
    · have hl := one_less m h
      have hcl := (one_closed m).trans hc
      cases ht : (oneF m).2.1
      · have hs := h.resolve_left (by rw [ht]; decide)
        have d1 := drain_go he ht hs
        have d2 := drain_go hee (by rw [e]; exact ht) (by rw [e]; exact hs)
        rw [e] at d2
        rw [d1, d2]
        exact ih _ (by omega) _ (Nat.le_refl _) hcl he1 u c
      · have d1 := drain_told he ht
        have d2 := drain_told hee (by rw [e]; exact ht)
        rw [e] at d2
        simp only [switch_ext] at d2
        have hds := doM_switch (oneF m).2.2.2 (oneF m).1
        have := ih (doM (switchF (oneF m).2.2.2 (oneF m).1)) (by rw [hds]; omega) _ (Nat.le_refl _) ((switch_closed _ _).trans hcl) ((switchF_err _ _).trans he1) u c
        rw [d1, d2]
        exact ⟨this.1, fun h0 => ⟨(this.2 h0).1.cons _, (this.2 h0).2⟩⟩
    · have d1 := drain_stop he h1 h2
      have d2 := drain_stop hee h3 h4
      have d3 := drain_err (m := extM (oneF m).2.2.2 u c) he1
      rw [d1, d2, d3]
      exact ⟨h5, fun h0 => absurd (h5.symm.trans h0) he1⟩
    · have d1 := drain_stop he h1 h2
      have d2 := drain_eq hee (show (extM (oneF m).2.2.2 u c).err = 0 from he1) e
      rw [d1, d2]
      exact ⟨rfl, fun _ => ⟨Alike.refl _, rfl⟩⟩
    · have sw : ∀ (m : MkM) (t : Str), switchF m (textM t) = m := fun m t => by unfold switchF; rw [if_pos (by show (1 : Int) ≠ 2; decide)]
      have d1 := drain_told he (by rw [e])
      rw [e] at d1
      simp only [sw] at d1
      have hq1 : drainF m1 = ([], m1) := by
        rcases hq with hq | ⟨x, hq⟩
        · have := drain_stop he1 (by rw [hq]) (by rw [hq]); rw [hq] at this; exact this
        · have := drain_stop he1 (by rw [hq]) (by rw [hq]); rw [hq] at this; exact this
      rw [hq1] at d1
      have d2 := drain_told hee (by rw [e'])
      rw [e'] at d2
      simp only [sw] at d2
      have hee1 : (extM m1 u c).err = 0 := he1
      rw [d1, d2]
      simp only
      rcases h with ⟨st2, h⟩ | ⟨rfl, h⟩ | ⟨rfl, ha, hb, h⟩
      · have d3 := drain_told hee1 (by rw [h])
        rw [h] at d3
        simp only [sw] at d3
        rw [d3]
        exact ⟨rfl, fun _ => ⟨((alike_two t t').symm.append (Alike.refl (drainF m1').1)), rfl⟩⟩
      · rw [h, List.append_nil]
        exact ⟨rfl, fun _ => ⟨Alike.refl _, rfl⟩⟩
      · have d3 := drain_go hee1 ha hb
        rw [h] at d3
        rw [d3, List.append_nil]
        exact ⟨rfl, fun _ => ⟨Alike.refl _, rfl⟩⟩
end Go.Proofs.YtbabcohidpcjjaaGreat
