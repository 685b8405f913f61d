import Derived.Test.YtbabcohidpcjjaaGreatZMkAll
import Derived.Test.YtbabcohidpcjjaaGreatZSpec
/-
  What holds of every mark that is told; how long names are: plain Lean, no Go.
-/
namespace Go.Proofs.YtbabcohidpcjjaaGreat
open Mem

section
variable {P : MarkD → Prop} (hb : ∀ k, P (bareM k)) (ht : ∀ t, P (textM t)) (hp : ∀ s e, s.length ≤ 2049 → P (parseF s e).1)
include hb hp in
theorem tagF_all (m : MkM) (e : Bool) : P (tagF m e).1 := by
  have hl : (m.buf.take 2049).length ≤ 2049 := by rw [List.length_take]; omega
  unfold tagF
  simp only
  repeat' split
  all_goals first | exact hb _ | exact hp _ _ hl
include hb ht hp in
theorem oneF_all (m : MkM) : P (oneF m).1 := by
  have hl : ∀ m' : MkM, P (comLater m').1 := fun m' => by
    unfold comLater
    simp only
    repeat' split
    all_goals exact hb _
  unfold oneF
  split
  · unfold stepF
    simp only
    repeat' split
    all_goals first | exact ht _ | exact hb _ | exact tagF_all hb hp _ _
  · unfold passF comF cdF
    simp only
    repeat' split
    all_goals first | exact ht _ | exact hb _ | exact hl _
include hb ht hp in
theorem readF_all : ∀ (n : Nat) (m : MkM), doM m ≤ n → ∀ x m1, readF m = (some x, m1) → P x := by
  intro n
  induction n using Nat.strongRecOn with
  | _ n ih =>
    intro m hm x m1 h
    by_cases he : m.err = 0
    · cases ht' : (oneF m).2.1
      · cases hs : (oneF m).2.2.1
        · rw [readF_go he ht' hs] at h
          have hl := one_less m (.inr hs)
          exact ih (doM (oneF m).2.2.2) (by omega) _ (Nat.le_refl _) x m1 h
        · rw [readF_stop he ht' hs] at h; cases h
      · rw [readF_told he ht'] at h
        cases h
        exact oneF_all hb ht hp m
    · rw [readF_err he] at h; cases h
include hb ht hp in
theorem drainF_all : ∀ (n : Nat) (m : MkM), doM m ≤ n → ∀ x ∈ (drainF m).1, P x := by
  intro n
  induction n using Nat.strongRecOn with
  | _ n ih =>
    intro m hm
    rcases h : readF m with ⟨_ | x, m1⟩
    · rw [drainF_none h]; exact fun _ h => by cases h
    · rw [drainF_some h]
      have h2 := read_less _ m (Nat.le_refl _) x m1 h
      have h5 := doM_switch m1 x
      intro y hy
      rcases List.mem_cons.1 hy with rfl | hy
      · exact readF_all hb ht hp _ m (Nat.le_refl _) _ m1 h
      · exact ih (doM m1) (by omega) (switchF m1 x) (by omega) y hy
variable (hj : ∀ x t, P x → P { x with text := t })
include hj in
theorem joinF_all : ∀ (l out : List MarkD), (∀ x ∈ l, P x) → (∀ x ∈ out, P x) → ∀ x ∈ joinF out l, P x
  | [], out, _, h => h
  | x :: r, out, hl, h => by
    have hx := hl x List.mem_cons_self
    have hr : ∀ y ∈ r, P y := fun y hy => hl y (List.mem_cons_of_mem _ hy)
    have push : ∀ y ∈ joinF (out ++ [x]) r, P y := joinF_all r _ hr (fun y hy => (List.mem_append.1 hy).elim (h y) fun hy => List.mem_singleton.1 hy ▸ hx)
    rw [joinF]
    split
    · exact push
    · split
      · exact joinF_all r out hr h
      · split
        · rename_i y hy
          split
          · refine joinF_all r _ hr fun z hz => ?_
            rcases List.mem_append.1 hz with hz | hz
            · exact h z (List.dropLast_subset _ hz)
            · rw [List.mem_singleton.1 hz]
              exact hj y _ (h y (List.mem_of_getLast? hy))
          · exact push
        · exact push
include hb ht hp hj in
theorem marksF_all (t : Str) : ∀ x ∈ (marksF t).1, P x := by
  unfold marksF
  simp only
  split
  · exact fun _ h => by cases h
  · split
    · exact fun _ h => by cases h
    · exact joinF_all hj _ [] (fun x hx => (List.mem_append.1 hx).elim (drainF_all hb ht hp _ _ (Nat.le_refl _) x) (drainF_all hb ht hp _ _ (Nat.le_refl _) x)) (fun _ h => by cases h)
end
theorem attrF_name {s r : Str} {a : Str × Str} (h : attrF s = some (a, r)) : a.1.length ≤ s.length := by
  cases s with
  | nil => cases h
  | cons c s =>
    simp only [attrF] at h
    split at h
    · cases h
    · rename_i t r2 hu
      have h1 := (untilF_len hu).1
      split at h
      · cases h
      · rename_i d r4 he
        split at h
        · cases hv : valueF r4 with
          | none => rw [hv] at h; cases h
          | some p =>
            rw [hv] at h
            simp only [Option.map_some, Option.some.injEq, Prod.mk.injEq] at h
            rw [← h.1]
            simp only [lowS, List.length_map, List.length_cons]
            omega
        · simp only [Option.some.injEq, Prod.mk.injEq] at h
          rw [← h.1]
          simp only [lowS, List.length_map, List.length_cons]
          omega
theorem tagsF_name : ∀ (n : Nat) (al : List (Str × Str)) (r : Str) (k : Nat), r.length ≤ n → n ≤ k → (∀ a ∈ al, a.1.length ≤ k) → ∀ al' sl r', tagsF al r = some (al', sl, r') → ∀ a ∈ al', a.1.length ≤ k := by
  intro n
  induction n with
  | zero =>
    intro al r k hn _ _ al' sl r' h
    obtain rfl : r = [] := List.eq_nil_of_length_eq_zero (by omega)
    rw [tagsF] at h
    cases h
  | succ n ih =>
    intro al r k hn hk ha al' sl r' h
    rw [tagsF] at h
    have h0 := dropWhile_len gapB r
    split at h
    · cases h
    · rename_i c r1 he
      rw [he] at h0
      split at h
      · simp only [Option.some.injEq, Prod.mk.injEq] at h
        rw [← h.1]
        exact ha
      · split at h
        · cases h
        · rename_i a r2 hat
          have hg := attrF_name hat
          split at h
          · rename_i hlt
            refine ih _ r2 k (by omega) (by omega) ?_ _ _ _ h
            split
            · exact ha
            · intro b hb
              rcases List.mem_append.1 hb with hb | hb
              · exact ha b hb
              · rw [List.mem_singleton.1 hb]; omega
          · cases h
/-- names are short -/
def Short (x : MarkD) : Prop := x.name.length ≤ 2049 ∧ ∀ a ∈ x.attrs, a.1.length ≤ 2049
theorem parseF_short (s : Str) (e : Bool) (hs : s.length ≤ 2049) : Short (parseF s e).1 := by
  have h0 : Short (bareM 0) := ⟨Nat.zero_le _, fun _ h => by cases h⟩
  have hd : (s.drop (if e then 2 else 1)).length ≤ 2049 := by rw [List.length_drop]; omega
  unfold parseF
  split
  · exact h0
  · rename_i nm r hu
    have h1 := (untilF_len hu).1
    have hn : (lowS nm).length ≤ 2049 := by simp only [lowS, List.length_map]; omega
    split
    · exact h0
    · rename_i al sl r2 ht
      split
      · exact ⟨hn, fun _ h => by cases h⟩
      · split
        · exact h0
        · exact ⟨hn, tagsF_name _ [] r 2049 (Nat.le_refl _) (by omega) (fun _ h => by cases h) _ _ _ ht⟩
theorem marksF_short (t : Str) : ∀ x ∈ (marksF t).1, Short x :=
  marksF_all (fun _ => ⟨Nat.zero_le _, fun _ h => by cases h⟩) (fun _ => ⟨Nat.zero_le _, fun _ h => by cases h⟩) parseF_short (fun _ _ h => h) t
end Go.Proofs.YtbabcohidpcjjaaGreat
