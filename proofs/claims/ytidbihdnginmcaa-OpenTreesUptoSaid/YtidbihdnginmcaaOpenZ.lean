/-
  How many nodes there are below one: plain Lean, no Go. (Layer 14.)
-/
import Derived.Test.YtidbihdnginmcaaOpenY
namespace Go.Proofs.Ytidbihdnginmcaa
open Mem

mutual
def ntCount : NT → Nat
  | .mk _ _ _ _ _ kids => 1 + ntCounts kids
def ntCounts : List NT → Nat
  | [] => 0
  | x :: r => ntCount x + ntCounts r
end
theorem counts_mem : ∀ (l : List NT) (x : NT), x ∈ l → ntCount x ≤ ntCounts l
  | [], _, h => by cases h
  | y :: r, x, h => by
    rw [ntCounts]
    rcases List.mem_cons.1 h with rfl | h
    · omega
    · have := counts_mem r x h
      omega
theorem counts_append : ∀ (l r : List NT), ntCounts (l ++ r) = ntCounts l + ntCounts r
  | [], r => by simp [ntCounts]
  | x :: l, r => by
    rw [List.cons_append, ntCounts, ntCounts, counts_append l r]
    omega
theorem counts_map {α : Type} (f : α → NT) : ∀ (l : List α), ntCounts (l.map f) = (l.map fun x => ntCount (f x)).sum
  | [] => rfl
  | x :: l => by
    rw [List.map_cons, ntCounts, counts_map f l, List.map_cons, List.sum_cons]

/-- above is no deeper -/
theorem reach_rank {T : TreeD} {r : Int → Nat} (hw : WF T) (hr : ∀ i : Nat, i < T.nodes.length → 1 ≤ parentF T i → r (parentF T i) < r i) {x m : Int} (hx : 1 ≤ x) (h : Reach T x m) : m < T.nodes.length → r x ≤ r m := by
  induction h with
  | here => exact fun _ => Nat.le_refl _
  | @up m h0 hh ih =>
    intro hm
    obtain ⟨i, rfl⟩ := Int.eq_ofNat_of_zero_le (by omega : 0 ≤ m)
    have hp := hw.par i (by omega)
    have h1 := ih hp.2
    have hp1 : 1 ≤ parentF T i := by
      rcases Int.lt_or_le (parentF T i) 1 with h | h
      · have := (reach_low (T := T) (top := x) (n := parentF T i) (by omega)).1 hh
        omega
      · exact h
    have := hr i (by omega) hp1
    omega
/-- of two that are above one, one is above the other -/
theorem reach_two {T : TreeD} {x y m : Int} (hx : Reach T x m) (hy : Reach T y m) : Reach T x y ∨ Reach T y x := by
  induction hx with
  | here => exact .inr hy
  | @up m h0 hh ih =>
    cases hy with
    | here => exact .inl (.up h0 hh)
    | up _ hy' => exact ih hy'

section
variable {T : TreeD} (hw : WF T)
include hw
theorem kid_not_above {n : Nat} (hn : n < T.nodes.length) (h1 : 1 ≤ n) {x : Int} (hx : x ∈ kidsF T n) : ¬ Reach T x n := by
  intro h
  obtain ⟨p1, p2, p3⟩ := hw.kid n hn x hx
  obtain ⟨r, hr⟩ := hw.rank
  obtain ⟨i, rfl⟩ := Int.eq_ofNat_of_zero_le (by omega : 0 ≤ x)
  have h2 := reach_rank hw hr p1 h (by omega)
  have h3 := hr i (by omega) (by rw [p3]; omega)
  rw [p3] at h3
  omega
theorem reach_kid {n : Nat} {m : Int} (hm : m < T.nodes.length) (hne : m ≠ n) (h : Reach T n m) : ∃ x, x ∈ kidsF T n ∧ Reach T x m := by
  have key : ∀ m : Int, Reach T n m → m < T.nodes.length → m ≠ n → ∃ x, x ∈ kidsF T n ∧ Reach T x m := by
    intro m hm
    induction hm with
    | here => intro _ h; exact absurd rfl h
    | @up m h0 hh ih =>
      intro hlt _
      obtain ⟨i, rfl⟩ := Int.eq_ofNat_of_zero_le (by omega : 0 ≤ m)
      have hp := hw.par i (by omega)
      by_cases he : parentF T i = n
      · have := hw.mem i (by omega) (by omega)
        rw [he] at this
        exact ⟨_, this, .here⟩
      · obtain ⟨x, hx, hr⟩ := ih hp.2 he
        exact ⟨x, hx, .up h0 hr⟩
  exact key m h hm hne
theorem kid_reach {n : Nat} (hn : n < T.nodes.length) {x m : Int} (hx : x ∈ kidsF T n) (h : Reach T x m) : Reach T n m := by
  obtain ⟨p1, p2, p3⟩ := hw.kid n hn x hx
  induction h with
  | here => exact .up (by omega) (by rw [p3]; exact .here)
  | up h0 _ ih => exact .up h0 ih
theorem kid_one {n : Nat} (hn : n < T.nodes.length) (h1 : 1 ≤ n) {x y m : Int} (hx : x ∈ kidsF T n) (hy : y ∈ kidsF T n) (hxm : Reach T x m) (hym : Reach T y m) : x = y := by
  have key : ∀ {x y : Int}, x ∈ kidsF T n → y ∈ kidsF T n → Reach T x y → x = y := by
    intro x y hx hy h
    cases h with
    | here => rfl
    | up h0 h =>
      rw [(hw.kid n hn y hy).2.2] at h
      exact absurd h (kid_not_above hw hn h1 hx)
  rcases reach_two hxm hym with h | h
  · exact key hx hy h
  · exact (key hy hx h).symm
end

theorem countP_one {α : Type} (P : α → Bool) : ∀ (l : List α), l.Nodup → (∀ x ∈ l, ∀ y ∈ l, P x = true → P y = true → x = y) → (∃ x ∈ l, P x = true) → l.countP P = 1
  | [], _, _, ⟨_, h, _⟩ => by cases h
  | a :: r, hd, hu, hex => by
    rw [List.nodup_cons] at hd
    rw [List.countP_cons]
    by_cases ha : P a = true
    · rw [if_pos ha]
      have : r.countP P = 0 := by
        rw [List.countP_eq_zero]
        intro x hx hp
        have := hu a List.mem_cons_self x (List.mem_cons_of_mem _ hx) ha hp
        subst this
        exact hd.1 hx
      omega
    · rw [if_neg ha]
      obtain ⟨x, hx, hp⟩ := hex
      rcases List.mem_cons.1 hx with rfl | hx
      · exact absurd hp ha
      · have := countP_one P r hd.2 (fun x hx y hy => hu x (List.mem_cons_of_mem _ hx) y (List.mem_cons_of_mem _ hy)) ⟨x, hx, hp⟩
        omega
theorem sum_add {α : Type} (f g : α → Nat) : ∀ l : List α, (l.map fun x => f x + g x).sum = (l.map f).sum + (l.map g).sum
  | [] => rfl
  | a :: r => by
    rw [List.map_cons, List.map_cons, List.map_cons, List.sum_cons, List.sum_cons, List.sum_cons, sum_add f g r]
    omega
theorem sum_ind {α : Type} (P : α → Bool) : ∀ l : List α, (l.map fun x => if P x then 1 else 0).sum = l.countP P
  | [] => rfl
  | a :: r => by
    rw [List.map_cons, List.sum_cons, sum_ind P r, List.countP_cons]
    omega
theorem count_swap {α β : Type} (P : β → α → Bool) (E : α → Bool) (Q : α → Bool) (ks : List β) : ∀ (M : List α), (∀ a ∈ M, (if Q a then 1 else 0) = (if E a then 1 else 0) + ks.countP (fun x => P x a)) → M.countP Q = M.countP E + (ks.map fun x => M.countP (P x)).sum
  | [], _ => by
    have : ∀ l : List β, (l.map fun _ => 0).sum = 0 := by intro l; induction l <;> simp_all
    simp [this]
  | a :: M, h => by
    have ih := count_swap P E Q ks M (fun b hb => h b (List.mem_cons_of_mem _ hb))
    have ha := h a List.mem_cons_self
    have hs : (ks.map fun x => (a :: M).countP (P x)).sum = (ks.map fun x => M.countP (P x)).sum + ks.countP (fun x => P x a) := by
      have : (fun x => (a :: M).countP (P x)) = fun x => M.countP (P x) + (if P x a then 1 else 0) := by
        funext x; rw [List.countP_cons]
      rw [this, sum_add, sum_ind]
    rw [List.countP_cons, List.countP_cons, hs, ih, ha]
    omega

/-- how many nodes are n, or below it -/
noncomputable def cntF (T : TreeD) (n : Int) : Nat := (List.range T.nodes.length).countP fun m : Nat => decide (1 ≤ m) && belowF T m n
theorem cntF_step {T : TreeD} (hw : WF T) {n : Nat} (hn : n < T.nodes.length) (h1 : 1 ≤ n) : cntF T n = 1 + ((kidsF T n).map (cntF T)).sum := by
  have h := count_swap (fun (x : Int) (m : Nat) => decide (1 ≤ m) && belowF T m x) (fun m => decide (m = n)) (fun m => decide (1 ≤ m) && belowF T m n) (kidsF T n) (List.range T.nodes.length) (by
    intro m hm
    have hm' := List.mem_range.1 hm
    by_cases hm1 : 1 ≤ m
    · have e1 : decide (1 ≤ m) = true := by simpa using hm1
      simp only [e1, Bool.true_and]
      by_cases he : m = n
      · subst he
        have : (kidsF T m).countP (fun x => belowF T m x) = 0 := by
          rw [List.countP_eq_zero]
          intro x hx hb
          exact kid_not_above hw hn hm1 hx (by simpa [belowF] using hb)
        rw [this, belowF_true .here]
        simp
      · rw [if_neg (by simpa using he : ¬ decide (m = n) = true)]
        by_cases hb : Reach T n m
        · rw [belowF_true hb, if_pos rfl]
          obtain ⟨x, hx, hxm⟩ := reach_kid hw (by omega) (by omega) hb
          rw [countP_one _ _ (hw.nodup n hn) (fun x hx y hy p q => kid_one hw hn h1 hx hy (by simpa [belowF] using p) (by simpa [belowF] using q)) ⟨x, hx, belowF_true hxm⟩]
        · have hb' : belowF T m n = false := by simpa [belowF] using hb
          rw [hb']
          have : (kidsF T n).countP (fun x => belowF T m x) = 0 := by
            rw [List.countP_eq_zero]
            intro x hx hh
            exact hb (kid_reach hw hn hx (by simpa [belowF] using hh))
          rw [this]
          simp
    · have e1 : decide (1 ≤ m) = false := by simpa using hm1
      have : (kidsF T n).countP (fun x => decide (1 ≤ m) && belowF T m x) = 0 := by
        rw [List.countP_eq_zero]
        intro x _ hh
        rw [e1] at hh
        cases hh
      rw [this, e1]
      have : m ≠ n := by omega
      simp [this])
  have h2 : (List.range T.nodes.length).countP (fun m => decide (m = n)) = 1 :=
    countP_one _ _ List.nodup_range (fun x _ y _ p q => (of_decide_eq_true p).trans (of_decide_eq_true q).symm) ⟨n, List.mem_range.2 hn, by simp⟩
  rw [h2] at h
  exact h

theorem count_read : ∀ (d : Nat) (T : TreeD), WF T → ∀ i : Nat, 1 ≤ i → i < T.nodes.length → Deep d T i → ntCount (readN d T i) = cntF T i
  | 0, _, _, _, _, _, h => h.elim
  | d + 1, T, hw, i, h1, hi, h => by
    rw [cntF_step hw hi h1]
    have hk := kidsF_of T i hi
    cases he : T.nodes[i].elem
    · rw [readN_text d T i hi he]
      have : kidsF T i = [] := by
        cases hc : kidsF T i with
        | nil => rfl
        | cons x r =>
          have hh := hw.holds i hi (by rw [hc]; simp)
          simp only [holdsF, Bool.or_eq_true, beq_iff_eq] at hh
          rcases hh with hh | hh
          · omega
          · rw [elemF_of T i h1 hi, he] at hh
            cases hh
      rw [this]
      rfl
    · rw [readN_elem d T i hi he, ntCount, ← hk, counts_map]
      congr 1
      congr 1
      refine List.map_congr_left fun x hx => ?_
      obtain ⟨p1, p2, _⟩ := hw.kid i hi x hx
      obtain ⟨j, rfl⟩ := Int.eq_ofNat_of_zero_le (by omega : 0 ≤ x)
      exact count_read d T hw j (by omega) (by omega) (h _ hx)
theorem cntF_le (T : TreeD) (n : Int) : cntF T n ≤ T.nodes.length := by
  have := List.countP_le_length (p := fun m : Nat => decide (1 ≤ m) && belowF T m n) (l := List.range T.nodes.length)
  simpa [cntF] using this
end Go.Proofs.Ytidbihdnginmcaa
