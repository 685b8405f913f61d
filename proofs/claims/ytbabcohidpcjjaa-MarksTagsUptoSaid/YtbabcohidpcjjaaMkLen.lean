/-
  What marks' machine tells is no longer than a tag may be: plain Lean, no Go.
-/
import Derived.Test.YtbabcohidpcjjaaMkStep
namespace Go.Proofs.Ytbabcohidpcjjaa
open Mem

theorem tagF_name (m : MkM) (e : Bool) : (tagF m e).1.name.length ≤ 2049 := by
  have hp : (parseF (m.buf.take 2049) e).1.name.length ≤ 2049 := by
    unfold parseF
    cases hu : untilF signT ((m.buf.take 2049).drop (if e then 2 else 1)) with
    | none => exact Nat.zero_le _
    | some q =>
      obtain ⟨nm, r⟩ := q
      have hl := (untilF_len hu).1
      rw [List.length_drop, List.length_take] at hl
      have hn : (lowS nm).length ≤ 2049 := by unfold lowS; rw [List.length_map]; omega
      cases ht : tagsF [] r with
      | none => simp only [ht]; exact Nat.zero_le _
      | some q =>
        obtain ⟨al, sl, r2⟩ := q
        simp only [ht]
        cases e
        · simp only [Bool.false_eq_true, if_false]
          split
          · exact Nat.zero_le _
          · exact hn
        · exact hn
  unfold tagF
  simp only
  obtain ⟨er, her⟩ : ∃ er, er = if (parseF (m.buf.take 2049) e).2.1 > 2048 ∨ ((parseF (m.buf.take 2049) e).2.1 < 0 ∧ 2048 < (m.buf.take 2049).length) then (41 : Int) else (parseF (m.buf.take 2049) e).2.2 := ⟨_, rfl⟩
  rw [← her]
  by_cases h0 : er = 0
  · rw [if_neg (fun hh => hh h0)]
    by_cases hn : (parseF (m.buf.take 2049) e).2.1 < 0
    · rw [if_pos hn]; exact Nat.zero_le _
    · rw [if_neg hn]; exact hp
  · rw [if_pos h0]; exact Nat.zero_le _
theorem tagF_err {m : MkM} {e : Bool} (h : (tagF m e).2.1 = true) : (tagF m e).2.2.2.err = m.err := by
  unfold tagF at h ⊢
  simp only at h ⊢
  obtain ⟨er, her⟩ : ∃ er, er = if (parseF (m.buf.take 2049) e).2.1 > 2048 ∨ ((parseF (m.buf.take 2049) e).2.1 < 0 ∧ 2048 < (m.buf.take 2049).length) then (41 : Int) else (parseF (m.buf.take 2049) e).2.2 := ⟨_, rfl⟩
  rw [← her] at h ⊢
  by_cases h0 : er = 0
  · rw [if_neg (fun hh => hh h0)] at h ⊢
    by_cases hn : (parseF (m.buf.take 2049) e).2.1 < 0
    · rw [if_pos hn] at h; cases h
    · rw [if_neg hn]
      cases e <;> rfl
  · rw [if_pos h0] at h; cases h
theorem passF_err (m : MkM) : (passF m).2.2.2.err = m.err ∧ (passF m).1.name = [] := by
  have hlater : ∀ m' : MkM, m'.err = m.err → (comLater m').2.2.2.err = m.err ∧ (comLater m').1.name = [] := fun m' h => by
    unfold comLater
    simp only
    repeat' split
    all_goals exact ⟨h, rfl⟩
  unfold passF
  split
  · unfold comF
    split
    · split
      · exact ⟨rfl, rfl⟩
      · split
        · exact ⟨rfl, rfl⟩
        · split
          · exact ⟨rfl, rfl⟩
          · exact hlater _ rfl
    · exact hlater m rfl
  · split
    · repeat' split
      all_goals exact ⟨rfl, rfl⟩
    · unfold cdF
      simp only
      repeat' split
      all_goals exact ⟨rfl, rfl⟩
theorem oneF_err {m : MkM} (h : (oneF m).2.1 = true) : (oneF m).2.2.2.err = m.err ∧ (oneF m).1.name.length ≤ 2049 := by
  unfold oneF at h ⊢
  split
  · rename_i h0
    rw [if_pos h0] at h
    unfold stepF at h ⊢
    simp only at h ⊢
    generalize textF m m.buf = p at *
    by_cases ht : p.1 = []
    · rw [if_neg (fun hh => hh ht)] at h ⊢
      by_cases i2 : p.2.2 = 2
      · rw [if_pos i2] at h ⊢; exact ⟨tagF_err h, tagF_name _ _⟩
      · rw [if_neg i2] at h ⊢
        by_cases i3 : p.2.2 = 3
        · rw [if_pos i3] at h ⊢; exact ⟨tagF_err h, tagF_name _ _⟩
        · rw [if_neg i3] at h ⊢
          repeat' split at h
          all_goals cases h
    · rw [if_pos ht]; exact ⟨rfl, Nat.zero_le _⟩
  · exact ⟨(passF_err m).1, by rw [(passF_err m).2]; exact Nat.zero_le _⟩
theorem readF_name : ∀ (n : Nat) (m : MkM), doM m ≤ n → ∀ x m1, readF m = (some x, m1) → m1.err = 0 ∧ x.name.length ≤ 2049 := by
  intro n
  induction n using Nat.strongRecOn with
  | _ n ih =>
    intro m hm x m1 h
    by_cases he : m.err = 0
    · cases ht : (oneF m).2.1
      · cases hs : (oneF m).2.2.1
        · rw [readF_go he ht hs] at h
          have hl := one_less m (.inr hs)
          exact ih (doM (oneF m).2.2.2) (by omega) _ (Nat.le_refl _) x m1 h
        · rw [readF_stop he ht hs] at h; cases h
      · rw [readF_told he ht] at h
        cases h
        exact ⟨(oneF_err ht).1.trans he, (oneF_err ht).2⟩
    · rw [readF_err he] at h; cases h
theorem switch_name (m : MkM) (x : MarkD) (h : m.name.length ≤ 4294967280) (hx : x.name.length ≤ 2049) : (switchF m x).name.length ≤ 4294967280 ∧ (switchF m x).buf = m.buf := by
  have hs : ∀ k, (setF m k x.name).name.length ≤ 4294967280 ∧ (setF m k x.name).buf = m.buf := fun k => by
    unfold setF
    split
    · exact ⟨by show x.name.length ≤ _; omega, rfl⟩
    · exact ⟨Nat.zero_le _, rfl⟩
  unfold switchF
  repeat' split
  all_goals first | exact ⟨h, rfl⟩ | exact hs _
end Go.Proofs.Ytbabcohidpcjjaa
