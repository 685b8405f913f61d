/-
  What is written in the place of signs: five replacements, one behind the other, are one pass. Plain Lean on the kit's words for strings.ReplaceAll. No conditions beyond those that each lemma types.
-/
import Derived.Test.YtcgkenmgglediaaDoorRefsLaws
import Derived.Lib.ReplaceLaws
import Derived.Lib.CountLaws
namespace Go.Proofs.YtcgkenmgglediaaDoor
open Mem Go.Lib

theorem rep_def {old new : Str} (hne : old ≠ new) (s : Str) : replaceAll s old new = replaceK old new (count s old) s := by
  have h : ¬ (old == new) = true := by simpa using hne
  unfold replaceAll replace
  rw [if_neg h]
  unfold replaceNum
  rw [if_pos (.inl (by omega))]
section
variable {old new : Str} (ho : old ≠ []) (hne : old ≠ new)
include ho hne
theorem rep_nil : replaceAll [] old new = [] := by
  rw [rep_def hne]
  have : index [] old = -1 := by cases old with | nil => exact absurd rfl ho | cons c r => rfl
  rw [count_miss this]; rfl
theorem rep_hit {s : Str} (h : old.isPrefixOf s = true) : replaceAll s old new = new ++ replaceAll (s.drop old.length) old new := by
  have hi : index s old = (0 : Nat) := by
    cases s with
    | nil => cases old with | nil => exact absurd rfl ho | cons c r => cases h
    | cons c r => rw [index, if_pos h]; rfl
  rw [rep_def hne, rep_def hne, count_hit ho hi, Nat.add_comm, replaceK_hit _ _ _ _ _ hi]
  simp
theorem rep_miss {c : UInt8} {r : Str} (h : old.isPrefixOf (c :: r) = false) : replaceAll (c :: r) old new = c :: replaceAll r old new := by
  have hi : index (c :: r) old = if index r old == -1 then -1 else index r old + 1 := by rw [index, h]; rfl
  rw [rep_def hne, rep_def hne]
  by_cases hm : index r old = -1
  · rw [hm] at hi
    rw [count_miss hm, count_miss (hi.trans (by rfl))]
    rfl
  · have hge := index_ge r old
    obtain ⟨i, hr⟩ := Int.eq_ofNat_of_zero_le (by omega : 0 ≤ index r old)
    have hne1 : (index r old == -1) = false := by rw [beq_eq_false_iff_ne]; exact hm
    rw [hne1, if_neg (by decide), hr] at hi
    have hi' : index (c :: r) old = ((i + 1 : Nat) : Int) := by rw [hi]; omega
    have e : (c :: r).drop (i + 1 + old.length) = r.drop (i + old.length) := by rw [show i + 1 + old.length = (i + old.length) + 1 from by omega]; rfl
    rw [count_hit ho hi', count_hit ho hr, e, Nat.add_comm, replaceK_hit _ _ _ _ _ hi', replaceK_hit _ _ _ _ _ hr, e]
    simp
theorem rep_len (hn : 1 ≤ new.length) : ∀ (n : Nat) (s : Str), s.length ≤ n → (replaceAll s old new).length ≤ s.length * new.length := by
  intro n
  induction n with
  | zero =>
    intro s hs
    have : s = [] := List.eq_nil_of_length_eq_zero (by omega)
    subst this
    rw [rep_nil ho hne]; simp
  | succ n ih =>
    intro s hs
    have hol : 1 ≤ old.length := by cases old with | nil => exact absurd rfl ho | cons c r => simp
    cases hp : old.isPrefixOf s
    · cases s with
      | nil => rw [rep_nil ho hne]; simp
      | cons c r =>
        rw [rep_miss ho hne hp]
        have := ih r (by simpa using hs)
        simp only [List.length_cons, Nat.add_mul, Nat.one_mul]
        omega
    · have hl := (List.isPrefixOf_iff_prefix.1 hp).length_le
      rw [rep_hit ho hne hp, List.length_append]
      have h1 := ih (s.drop old.length) (by rw [List.length_drop]; omega)
      rw [List.length_drop] at h1
      have h2 : (s.length - old.length) * new.length + old.length * new.length = s.length * new.length := by rw [← Nat.add_mul]; congr 1; omega
      have h3 : new.length ≤ old.length * new.length := Nat.le_mul_of_pos_left _ hol
      omega
end

/-- one sign for another text -/
def sub1 (c0 : UInt8) (new : Str) (c : UInt8) : Str := if c = c0 then new else [c]
theorem rep_one (c0 : UInt8) (new : Str) (hne : [c0] ≠ new) : ∀ s : Str, replaceAll s [c0] new = s.flatMap (sub1 c0 new)
  | [] => rep_nil (by simp) hne
  | c :: r => by
    rw [List.flatMap_cons, ← rep_one c0 new hne r]
    unfold sub1
    by_cases h : c = c0
    · subst h
      rw [rep_hit (by simp) hne (by simp), if_pos rfl]; rfl
    · have hp : ([c0] : Str).isPrefixOf (c :: r) = false := by
        rw [Bool.eq_false_iff]
        intro h'
        have := List.isPrefixOf_iff_prefix.1 h'
        simp only [List.cons_prefix_cons] at this
        exact h this.1.symm
      rw [rep_miss (by simp) hne hp, if_neg h]; rfl
def nbsp (s : Str) : Str := replaceAll s [194, 160] [38, 110, 98, 115, 112, 59]
theorem nb_hit (r : Str) : nbsp (194 :: 160 :: r) = [38, 110, 98, 115, 112, 59] ++ nbsp r := by
  unfold nbsp
  rw [rep_hit (by simp) (by simp) (by simp)]
  rfl
theorem nb_miss {c : UInt8} {r : Str} (h : ¬ (c = 194 ∧ r.head? = some 160)) : nbsp (c :: r) = c :: nbsp r := by
  unfold nbsp
  refine rep_miss (by simp) (by simp) ?_
  rw [Bool.eq_false_iff]
  intro h'
  have := List.isPrefixOf_iff_prefix.1 h'
  simp only [List.cons_prefix_cons] at this
  obtain ⟨h1, t, h2⟩ := this
  refine h ⟨h1.symm, ?_⟩
  rw [← h2]; rfl
def escAmp (s : Str) : Str := s.flatMap (sub1 38 [38, 97, 109, 112, 59])
def escRest (attr : Bool) (s : Str) : Str :=
  let x := (s.flatMap (sub1 60 [38, 108, 116, 59])).flatMap (sub1 62 [38, 103, 116, 59])
  if attr then x.flatMap (sub1 34 [38, 113, 117, 111, 116, 59]) else x
theorem escRest_append (attr : Bool) (a b : Str) : escRest attr (a ++ b) = escRest attr a ++ escRest attr b := by
  unfold escRest
  cases attr <;> simp [List.flatMap_append]
theorem escRest_one (attr : Bool) {c : UInt8} (h : c ≠ 38) : escRest attr [c] = escOne attr c := by
  unfold escRest escOne sub1
  rw [if_neg h]
  by_cases h1 : c = 60
  · subst h1; cases attr <;> decide
  · by_cases h2 : c = 62
    · subst h2; cases attr <;> decide
    · by_cases h3 : c = 34
      · subst h3; cases attr <;> decide
      · cases attr <;> simp [h1, h2, h3]
theorem escAmp_head (r : Str) (h : r.head? ≠ some 160) : (escAmp r).head? ≠ some 160 := by
  cases r with
  | nil => simp [escAmp]
  | cons c r =>
    unfold escAmp sub1
    rw [List.flatMap_cons]
    by_cases hc : c = 38
    · rw [if_pos hc]; simp
    · rw [if_neg hc]; simpa using h
theorem esc_chain (attr : Bool) : ∀ (n : Nat) (s : Str), s.length ≤ n → escRest attr (nbsp (escAmp s)) = escG attr false s := by
  intro n
  induction n with
  | zero =>
    intro s hs
    have : s = [] := List.eq_nil_of_length_eq_zero (by omega)
    subst this
    show escRest attr (nbsp []) = []
    have : nbsp [] = [] := rep_nil (by simp) (by simp)
    rw [this]
    cases attr <;> rfl
  | succ n ih =>
    intro s hs
    cases s with
    | nil => exact ih [] (by simp)
    | cons c r =>
      simp only [List.length_cons] at hs
      have ha : escAmp (c :: r) = (if c = 38 then [38, 97, 109, 112, 59] else [c]) ++ escAmp r := by unfold escAmp; rw [List.flatMap_cons]; rfl
      rw [ha, escG]
      by_cases hn : c = 194 ∧ r.head? = some 160
      · obtain ⟨rfl, hr⟩ := hn
        cases r with
        | nil => cases hr
        | cons d q =>
          obtain rfl : d = 160 := by simpa using hr
          have hb : escAmp (160 :: q) = 160 :: escAmp q := by unfold escAmp; rw [List.flatMap_cons]; rfl
          rw [if_neg (by decide), hb, if_pos ⟨rfl, rfl⟩, List.singleton_append, nb_hit, escRest_append, ih q (by simp only [List.length_cons] at hs; omega)]
          have : escG attr true (160 :: q) = escG attr false q := by rw [escG]
          rw [this]
          congr 1
          cases attr <;> decide
      · rw [if_neg hn]
        by_cases h38 : c = 38
        · subst h38
          rw [if_pos rfl]
          have hb : nbsp ([38, 97, 109, 112, 59] ++ escAmp r) = [38, 97, 109, 112, 59] ++ nbsp (escAmp r) := by
            show nbsp (38 :: 97 :: 109 :: 112 :: 59 :: escAmp r) = 38 :: 97 :: 109 :: 112 :: 59 :: nbsp (escAmp r)
            rw [nb_miss (by simp), nb_miss (by simp), nb_miss (by simp), nb_miss (by simp), nb_miss (by simp)]
          rw [hb, escRest_append, ih r (by omega)]
          congr 1
          cases attr <;> decide
        · rw [if_neg h38, List.singleton_append, nb_miss]
          · rw [show c :: nbsp (escAmp r) = [c] ++ nbsp (escAmp r) from rfl, escRest_append, ih r (by omega), escRest_one attr h38]
          · rintro ⟨h1, h2⟩
            exact hn ⟨h1, Classical.byContradiction fun h3 => escAmp_head r h3 h2⟩
theorem esc_all (attr : Bool) (s : Str) : escRest attr (nbsp (escAmp s)) = escS attr s := esc_chain attr _ s (Nat.le_refl _)
end Go.Proofs.YtcgkenmgglediaaDoor
