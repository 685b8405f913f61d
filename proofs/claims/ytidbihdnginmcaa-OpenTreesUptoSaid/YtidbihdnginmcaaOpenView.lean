/-
  What each change of a tree does to its views (parents, kids), and that a tree stays one: plain Lean, no Go. (Layer 14.)
-/
import Derived.Test.YtidbihdnginmcaaOpenSpec
namespace Go.Proofs.Ytidbihdnginmcaa
open Mem

/-- a tree is one, told of its views -/
structure WFv (N : Nat) (p : Int → Int) (K : Int → List Int) (H : Int → Bool) : Prop where
  pos : 0 < N
  root : p 0 = -1
  par : ∀ i : Nat, i < N → -1 ≤ p i ∧ p i < N
  kid : ∀ i : Nat, i < N → ∀ k ∈ K i, 1 ≤ k ∧ k < N ∧ p k = i
  mem : ∀ i : Nat, i < N → 0 ≤ p i → (i : Int) ∈ K (p i)
  nodup : ∀ i : Nat, i < N → (K i).Nodup
  rank : ∃ r : Int → Nat, ∀ i : Nat, i < N → 1 ≤ p i → r (p i) < r i
  holds : ∀ i : Nat, i < N → K i ≠ [] → H i = true

theorem WF.view {T : TreeD} (h : WF T) : WFv T.nodes.length (parentF T) (kidsF T) (holdsF T) := ⟨h.pos, h.root, h.par, h.kid, h.mem, h.nodup, h.rank, h.holds⟩
theorem WFv.wf {T : TreeD} (h : WFv T.nodes.length (parentF T) (kidsF T) (holdsF T)) : WF T := ⟨h.pos, h.root, h.par, h.kid, h.mem, h.nodup, h.rank, h.holds⟩
theorem WFv.congr {N : Nat} {p q : Int → Int} {K L : Int → List Int} {H G : Int → Bool} (h : WFv N p K H) (hp : ∀ i : Nat, i < N → q i = p i) (hK : ∀ i : Nat, i < N → L i = K i) (hH : ∀ i : Nat, i < N → G i = H i) : WFv N q L G where
  pos := h.pos
  root := by have := hp 0 h.pos; rw [show ((0 : Nat) : Int) = 0 from rfl] at this; rw [this]; exact h.root
  par := fun i hi => by rw [hp i hi]; exact h.par i hi
  kid := fun i hi k hk => by
    rw [hK i hi] at hk
    obtain ⟨h1, h2, h3⟩ := h.kid i hi k hk
    obtain ⟨m, rfl⟩ := Int.eq_ofNat_of_zero_le (by omega : 0 ≤ k)
    exact ⟨h1, h2, by rw [hp m (by omega)]; exact h3⟩
  mem := fun i hi h0 => by
    rw [hp i hi] at h0 ⊢
    have hm := h.mem i hi h0
    have hr := h.par i hi
    obtain ⟨m, hm'⟩ := Int.eq_ofNat_of_zero_le h0
    rw [hm'] at hm hr ⊢
    rw [hK m (by omega)]
    exact hm
  nodup := fun i hi => by rw [hK i hi]; exact h.nodup i hi
  rank := by
    obtain ⟨r, hr⟩ := h.rank
    exact ⟨r, fun i hi h1 => by rw [hp i hi] at h1 ⊢; exact hr i hi h1⟩
  holds := fun i hi hk => by rw [hK i hi] at hk; rw [hH i hi]; exact h.holds i hi hk

/-- is top the number n, or above it (told of a view)? -/
inductive ReachV (p : Int → Int) (top : Int) : Int → Prop
  | here : ReachV p top top
  | up {n : Int} : 0 < n → ReachV p top (p n) → ReachV p top n
theorem reachV {T : TreeD} {top n : Int} : Reach T top n ↔ ReachV (parentF T) top n := by
  constructor
  · intro h
    induction h with
    | here => exact .here
    | up h _ ih => exact .up h ih
  · intro h
    induction h with
    | here => exact .here
    | up h _ ih => exact .up h ih

/-- a node is taken out -/
theorem WFv.take {N : Nat} {p : Int → Int} {K : Int → List Int} {H : Int → Bool} (h : WFv N p K H) {n : Int} (h1 : 1 ≤ n) :
    WFv N (fun i => if i = n then -1 else p i) (fun i => if i = p n then (K i).filter (· != n) else K i) H where
  pos := h.pos
  root := by rw [if_neg (by omega)]; exact h.root
  par := fun i hi => by
    have := h.par i hi
    show -1 ≤ (if (i : Int) = n then -1 else p i) ∧ (if (i : Int) = n then -1 else p i) < N
    split
    · have := h.pos; omega
    · exact this
  kid := fun i hi k hk => by
    have hne : k ≠ n ∧ k ∈ K i := by
      try dsimp only at hk
      split at hk
      · simp only [List.mem_filter, bne_iff_ne] at hk; exact ⟨hk.2, hk.1⟩
      · rename_i hni
        refine ⟨fun e => ?_, hk⟩
        obtain ⟨_, _, h4⟩ := h.kid i hi k hk
        rw [e] at h4
        exact hni h4.symm
    obtain ⟨h2, h3, h4⟩ := h.kid i hi k hne.2
    exact ⟨h2, h3, by rw [if_neg hne.1]; exact h4⟩
  mem := fun i hi h0 => by
    try dsimp only at h0 ⊢
    by_cases he : (i : Int) = n
    · rw [if_pos he] at h0; omega
    · rw [if_neg he] at h0
      rw [if_neg he]
      have hm := h.mem i hi h0
      split
      · simp only [List.mem_filter, bne_iff_ne]; exact ⟨hm, he⟩
      · exact hm
  nodup := fun i hi => by
    try dsimp only
    split
    · exact (h.nodup i hi).filter _
    · exact h.nodup i hi
  rank := by
    obtain ⟨r, hr⟩ := h.rank
    refine ⟨r, fun i hi h2 => ?_⟩
    try dsimp only at h2 ⊢
    by_cases he : (i : Int) = n
    · rw [if_pos he] at h2; omega
    · rw [if_neg he] at h2 ⊢
      exact hr i hi h2
  holds := fun i hi hk => by
    refine h.holds i hi fun e => hk ?_
    try dsimp only
    rw [e]
    split <;> rfl

/-- a node that is in nothing is put somewhere -/
theorem WFv.insert {N : Nat} {p : Int → Int} {K : Int → List Int} {H : Int → Bool} (h : WFv N p K H) {n a : Int} {i : Nat} (h1 : 1 ≤ n) (hn : n < N) (ha0 : 0 ≤ a) (ha : a < N) (hH : H a = true) (hp : p n = -1) (hr : ¬ ReachV p n a) :
    WFv N (fun j => if j = n then a else p j) (fun j => if j = a then (K j).take i ++ n :: (K j).drop i else K j) H := by
  have hna : a ≠ n := fun e => hr (e ▸ .here)
  have hnot : ∀ j : Nat, j < N → n ∉ K j := fun j hj hm => by
    have := (h.kid j hj n hm).2.2
    omega
  have hperm : ∀ (l : List Int), (l.take i ++ n :: l.drop i).Perm (n :: l) := fun l => by
    have := (List.perm_middle : (l.take i ++ n :: l.drop i).Perm (n :: (l.take i ++ l.drop i)))
    rwa [List.take_append_drop] at this
  refine ⟨h.pos, ?_, ?_, ?_, ?_, ?_, ?_, ?_⟩
  · rw [if_neg (by omega)]; exact h.root
  · intro j hj
    try dsimp only
    split
    · omega
    · exact h.par j hj
  · intro j hj k hk
    try dsimp only at hk ⊢
    by_cases hja : (j : Int) = a
    · rw [if_pos hja] at hk
      rcases List.mem_cons.1 ((hperm _).mem_iff.1 hk) with rfl | hk
      · exact ⟨h1, hn, by rw [if_pos rfl]; exact hja.symm⟩
      · obtain ⟨h2, h3, h4⟩ := h.kid j hj k hk
        have : k ≠ n := fun e => hnot j hj (e ▸ hk)
        exact ⟨h2, h3, by rw [if_neg this]; exact h4⟩
    · rw [if_neg hja] at hk
      obtain ⟨h2, h3, h4⟩ := h.kid j hj k hk
      have : k ≠ n := fun e => hnot j hj (e ▸ hk)
      exact ⟨h2, h3, by rw [if_neg this]; exact h4⟩
  · intro j hj h0
    try dsimp only at h0 ⊢
    by_cases he : (j : Int) = n
    · rw [if_pos he, if_pos rfl]
      exact (hperm _).mem_iff.2 (by rw [he]; exact List.mem_cons_self)
    · rw [if_neg he] at h0 ⊢
      have hm := h.mem j hj h0
      split
      · exact (hperm _).mem_iff.2 (List.mem_cons_of_mem _ hm)
      · exact hm
  · intro j hj
    try dsimp only
    split
    · exact (hperm _).nodup_iff.2 (List.nodup_cons.2 ⟨hnot j hj, h.nodup j hj⟩)
    · exact h.nodup j hj
  · obtain ⟨r, hrk⟩ := h.rank
    classical
    refine ⟨fun j => if ReachV p n j then r j + r a + 1 else r j, fun j hj h2 => ?_⟩
    try dsimp only at h2 ⊢
    by_cases he : (j : Int) = n
    · rw [if_pos he, if_neg hr, if_pos (by rw [he]; exact .here)]
      omega
    · rw [if_neg he] at h2 ⊢
      have hj0 : (0 : Int) < j := by
        rcases Nat.eq_zero_or_pos j with h0 | h0
        · subst h0
          have hroot := h.root
          rw [show ((0 : Nat) : Int) = 0 from rfl] at h2
          omega
        · omega
      have hlt := hrk j hj h2
      by_cases hj2 : ReachV p n j
      · rw [if_pos hj2]
        have : ReachV p n (p j) := by
          cases hj2 with
          | here => exact absurd rfl he
          | up _ hh => exact hh
        rw [if_pos this]
        omega
      · rw [if_neg hj2, if_neg (fun hh => hj2 (.up hj0 hh))]
        exact hlt
  · intro j hj hk
    try dsimp only at hk
    by_cases hja : (j : Int) = a
    · rw [hja]; exact hH
    · rw [if_neg hja] at hk
      exact h.holds j hj hk

/-- a node is added -/
theorem WFv.add {N : Nat} {p q : Int → Int} {K L : Int → List Int} {H G : Int → Bool} (h : WFv N p K H) (hq : ∀ i : Nat, i < N → q i = p i) (hL : ∀ i : Nat, i < N → L i = K i) (hG : ∀ i : Nat, i < N → G i = H i) (hqN : q N = -1) (hLN : L N = []) : WFv (N + 1) q L G := by
  have h' := h.congr hq hL hG
  refine ⟨Nat.succ_pos _, h'.root, ?_, ?_, ?_, ?_, ?_, ?_⟩
  · intro i hi
    by_cases he : i = N
    · subst he; rw [hqN]; omega
    · have := h'.par i (by omega); omega
  · intro i hi k hk
    by_cases he : i = N
    · subst he; rw [hLN] at hk; cases hk
    · have := h'.kid i (by omega) k hk
      exact ⟨this.1, by omega, this.2.2⟩
  · intro i hi h0
    by_cases he : i = N
    · subst he; rw [hqN] at h0; omega
    · exact h'.mem i (by omega) h0
  · intro i hi
    by_cases he : i = N
    · subst he; rw [hLN]; exact List.nodup_nil
    · exact h'.nodup i (by omega)
  · obtain ⟨r, hr⟩ := h'.rank
    refine ⟨r, fun i hi h1 => ?_⟩
    by_cases he : i = N
    · subst he; rw [hqN] at h1; omega
    · exact hr i (by omega) h1
  · intro i hi hk
    by_cases he : i = N
    · subst he; exact absurd hLN hk
    · exact h'.holds i (by omega) hk

/-- taken out, n is above no more than before -/
theorem reachV_take {p : Int → Int} {n m : Int} (h : ReachV (fun i => if i = n then -1 else p i) n m) : ReachV p n m := by
  induction h with
  | here => exact .here
  | @up m hm _ ih =>
    by_cases he : m = n
    · rw [he]; exact .here
    · try dsimp only at ih
      rw [if_neg he] at ih
      exact .up hm ih

/-- a list without repetition, of numbers from 1 below N -/
theorem nodup_short : ∀ (N : Nat) (l : List Int), l.Nodup → (∀ k ∈ l, 0 ≤ k ∧ k < N) → l.length ≤ N
  | 0, l, _, h => by
    cases l with
    | nil => exact Nat.zero_le _
    | cons a r => have := h a List.mem_cons_self; omega
  | N + 1, l, hd, h => by
    have h1 := nodup_short N (l.erase (N : Int)) (hd.erase _) (fun k hk => by
      have hk' := (hd.mem_erase_iff).1 hk
      have := h k hk'.2
      omega)
    have := List.length_erase (a := (N : Int)) (l := l)
    split at this <;> omega
end Go.Proofs.Ytidbihdnginmcaa
