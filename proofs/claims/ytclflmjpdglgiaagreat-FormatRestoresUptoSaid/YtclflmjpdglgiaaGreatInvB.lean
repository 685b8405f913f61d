/-
  Plain: what Restore does: each entry at hand is open behind it, a second one changes nothing. No conditions beyond those that each lemma types.
-/
import Derived.Test.YtclflmjpdglgiaaGreatDmAC
namespace Go.Proofs.YtclflmjpdglgiaaGreat
open Go.RowKit Mem

theorem rfind_at {l : List Int} {k : Nat} {x : Int} (h : l[k]? = some x) (hc : l.count x ≤ 1) : rfind l x = k := by
  obtain ⟨hk, he⟩ := List.getElem?_eq_some_iff.1 h
  have hs := rfind_spec l x
  have h1 : (k : Int) ≤ rfind l x := by
    rcases Int.lt_or_le (rfind l x) k with h2 | h2
    · exact absurd he (hs.2.2.1 k hk h2)
    · exact h2
  obtain ⟨j, hj⟩ := Int.eq_ofNat_of_zero_le (by omega : 0 ≤ rfind l x)
  have hjl : j < l.length := by omega
  have hjx := hs.2.2.2 j hjl hj
  rcases Nat.lt_or_ge k j with h3 | h3
  · exfalso
    have h4 : 1 ≤ (l.take j).count x := List.count_pos_iff.2 (by
      rw [List.mem_iff_getElem?]
      exact ⟨k, by rw [List.getElem?_take_of_lt h3]; exact h⟩)
    rw [← List.take_append_drop j l, List.drop_eq_getElem_cons hjl, hjx, List.count_append, List.count_cons_self] at hc
    omega
  · rw [hj]; congr 1; omega

/-- the trees and lists behind so many that are formed again -/
theorem restR_ok (on : Bool) : ∀ (r i : Nat) (S : AS), (restR on r i S).2 = 0 → i + r ≤ S.ent.length →
    (restR on r i S).1.T.nodes.length = S.T.nodes.length + r ∧ (restR on r i S).1.ent.length = S.ent.length ∧ (restR on r i S).1.l.length = S.l.length + r ∧
    (∀ j, j < r → (restR on r i S).1.l[S.l.length + j]? = some ((S.T.nodes.length + j : Nat) : Int) ∧ (restR on r i S).1.ent[i + j]? = some ((S.T.nodes.length + j : Nat) : Int)) ∧
    (∀ j, j < i → (restR on r i S).1.ent[j]? = S.ent[j]?) ∧ ∀ j, j < S.l.length → (restR on r i S).1.l[j]? = S.l[j]?
  | 0, _, S, _, _ => ⟨rfl, rfl, rfl, fun j h => absurd h (Nat.not_lt_zero j), fun _ _ => rfl, fun _ _ => rfl⟩
  | r + 1, i, S, h, hi => by
    rw [restR] at h ⊢
    by_cases hm : (S.T.nodes.length : Int) - 1 < S.T.most
    · obtain ⟨q1, q2, q3⟩ := insertL_yes hm S.l on (spaceQ S.T (S.ent.getD i 0)) (nameQ S.T (S.ent.getD i 0)) (attrsQ S.T (S.ent.getD i 0))
      generalize insertL S.T S.l on (spaceQ S.T (S.ent.getD i 0)) (nameQ S.T (S.ent.getD i 0)) (attrsQ S.T (S.ent.getD i 0)) = q at *
      obtain ⟨T2, l2, n2, er⟩ := q
      simp only [Prod.mk.injEq] at q1 q2 q3
      obtain ⟨rfl, rfl⟩ := q2
      subst q1
      simp only [if_true] at h ⊢
      obtain ⟨h1, h2, h3, h4, h5, h6⟩ := restR_ok on r (i + 1) ⟨T2, S.l ++ [(S.T.nodes.length : Int)], S.ent.set i (S.T.nodes.length : Int)⟩ h (by simp only [List.length_set]; omega)
      simp only [List.length_set, List.length_append, List.length_singleton, q3] at h1 h2 h3 h4 h5 h6
      refine ⟨by omega, h2, by omega, fun j hj => ?_, fun j hj => ?_, fun j hj => ?_⟩
      · cases j with
        | zero =>
          refine ⟨?_, ?_⟩
          · simp only [Nat.add_zero]
            rw [h6 S.l.length (by omega)]
            simp
          · simp only [Nat.add_zero]
            rw [h5 i (by omega), List.getElem?_set_self (by omega)]
        | succ j =>
          obtain ⟨k1, k2⟩ := h4 j (by omega)
          refine ⟨?_, ?_⟩
          · rw [show S.l.length + (j + 1) = S.l.length + 1 + j by omega, k1]; congr 2; omega
          · rw [show i + (j + 1) = i + 1 + j by omega, k2]; congr 2; omega
      · rw [h5 j (by omega), List.getElem?_set_ne (by omega)]
      · rw [h6 j (by omega), List.getElem?_append_left hj]
    · rw [insertL_no hm] at h
      simp at h
/-- an error: the tree is full -/
theorem restR_full (on : Bool) : ∀ (r i : Nat) (S : AS), (restR on r i S).2 ≠ 0 → (restR on r i S).1.T.most ≤ (restR on r i S).1.T.nodes.length - 1
  | 0, _, _, h => absurd rfl h
  | r + 1, i, S, h => by
    rw [restR] at h ⊢
    split
    · rename_i he
      rw [if_pos he] at h
      exact restR_full on r (i + 1) _ h
    · rename_i he
      by_cases hm : (S.T.nodes.length : Int) - 1 < S.T.most
      · obtain ⟨_, q2, _⟩ := insertL_yes hm S.l on (spaceQ S.T (S.ent.getD i 0)) (nameQ S.T (S.ent.getD i 0)) (attrsQ S.T (S.ent.getD i 0))
        exact absurd (congrArg Prod.snd q2) he
      · rw [insertL_no hm]
        show S.T.most ≤ (S.T.nodes.length : Int) - 1
        omega
section
variable {S : AS} {on : Bool}
theorem restL_full (h : (restL on S).2 ≠ 0) (hl : Lm 2000 S.T) : (restL on S).1.T.nodes.length = (2001 : Int) := by
  have h1 := restR_full on _ _ S h
  have h2 := restL_lm hl on
  have h3 : (restL on S).1.T.most = 2000 := h2.2
  have h4 := h2.1
  change (restL on S).1.T.most ≤ ((restL on S).1.T.nodes.length : Int) - 1 at h1
  omega
/-- Restore, where the tree was not full -/
structure Rst (on : Bool) (S R : AS) (mi : Nat) : Prop where
  eq : mi = S.ent.length - begF S.l S.ent
  len : R.ent.length = S.ent.length
  l : R.l.length = S.l.length + mi
  nodes : R.T.nodes.length = S.T.nodes.length + mi
  low : ∀ (i : Nat) (h : i < R.ent.length) (h' : i < S.ent.length), i < S.ent.length - mi → R.ent[i] = S.ent[i]
  high : ∀ (i : Nat) (h : i < R.ent.length), S.ent.length - mi ≤ i → rfind R.l R.ent[i] = ((S.l.length + (i - (S.ent.length - mi)) : Nat) : Int)
  again : restL on R = (R, 0)
theorem restL_rst (hf : FI S.T S.l S.ent) (hT : 1 ≤ S.T.nodes.length) (h : (restL on S).2 = 0) : Rst on S (restL on S).1 (S.ent.length - begF S.l S.ent) := by
  have hb := begF_le S.l S.ent
  obtain ⟨h1, h2, h3, h4, h5, h6⟩ := restR_ok on (S.ent.length - begF S.l S.ent) (begF S.l S.ent) S h (by omega)
  have hfi := (restL_fi hf hT on).1
  change (restL on S).1.T.nodes.length = _ at h1
  change (restL on S).1.ent.length = _ at h2
  change (restL on S).1.l.length = _ at h3
  change ∀ j, j < _ → (restL on S).1.l[_]? = _ ∧ (restL on S).1.ent[_]? = _ at h4
  change ∀ j, j < _ → (restL on S).1.ent[j]? = _ at h5
  have hhigh : ∀ (i : Nat) (hi : i < (restL on S).1.ent.length), begF S.l S.ent ≤ i → rfind (restL on S).1.l (restL on S).1.ent[i] = ((S.l.length + (i - begF S.l S.ent) : Nat) : Int) := fun i hi hbi => by
    obtain ⟨k1, k2⟩ := h4 (i - begF S.l S.ent) (by omega)
    rw [show begF S.l S.ent + (i - begF S.l S.ent) = i by omega, List.getElem?_eq_getElem hi, Option.some.injEq] at k2
    rw [k2]
    exact rfind_at k1 (hfi.lnd _)
  refine ⟨rfl, h2, h3, h1, fun i hi hi' hlt => ?_, fun i hi hlt => ?_, ?_⟩
  · have := h5 i (by omega)
    rw [List.getElem?_eq_getElem hi, List.getElem?_eq_getElem hi', Option.some.injEq] at this
    exact this
  · rw [show S.ent.length - (S.ent.length - begF S.l S.ent) = begF S.l S.ent by omega] at hlt ⊢
    exact hhigh i hi hlt
  · have hbeg : begF (restL on S).1.l (restL on S).1.ent = (restL on S).1.ent.length := by
      by_cases hr : S.ent.length - begF S.l S.ent = 0
      · have e : restL on S = (S, 0) := by rw [restL, hr]; rfl
        rw [e]
        show begF S.l S.ent = S.ent.length
        omega
      · refine begF_eq (fun k hk hk' => by omega) (fun h0 => ?_)
        refine ⟨by omega, ?_⟩
        have := hhigh ((restL on S).1.ent.length - 1) (by omega) (by omega)
        rw [stillB, this]
        simp
        omega
    rw [restL, hbeg, Nat.sub_self]
    rfl
end
end Go.Proofs.YtclflmjpdglgiaaGreat
