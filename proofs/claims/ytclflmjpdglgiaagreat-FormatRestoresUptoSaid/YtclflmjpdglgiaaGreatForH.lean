/-
  Contracts: colanderref13.SameAttrs: are two lists of attributes the same? The world stays but for draws.
-/
import Derived.Test.YtclflmjpdglgiaaGreatRows
import Derived.Test.YtclflmjpdglgiaaGreatMem
import Derived.Deep.QuietTactic
import Derived.BigQuiet
import Derived.Deep.RegionWith
namespace Go.Proofs.YtclflmjpdglgiaaGreat
open Go.RowKit Mem

def samePairs : List Pair → List Pair → Bool
  | [], [] => true
  | p :: l, q :: r => if p = q then samePairs l r else false
  | _, _ => false
theorem samePairs_step (l r : List Pair) (k : Nat) (h1 : k < l.length) (h2 : k < r.length) (he : l[k] = r[k]) : samePairs (l.drop k) (r.drop k) = samePairs (l.drop (k + 1)) (r.drop (k + 1)) := by
  rw [List.drop_eq_getElem_cons h1, List.drop_eq_getElem_cons h2, samePairs, if_pos he]
theorem samePairs_miss (l r : List Pair) (k : Nat) (h1 : k < l.length) (h2 : k < r.length) (he : l[k] ≠ r[k]) : samePairs (l.drop k) (r.drop k) = false := by
  rw [List.drop_eq_getElem_cons h1, List.drop_eq_getElem_cons h2, samePairs, if_neg he]
theorem samePairs_len : ∀ (l r : List Pair), l.length ≠ r.length → samePairs l r = false
  | [], [], h => absurd rfl h
  | [], _ :: _, _ => rfl
  | _ :: _, [], _ => rfl
  | p :: l, q :: r, h => by
    rw [samePairs]
    split
    · exact samePairs_len l r (by simpa using h)
    · rfl
theorem samePairs_self : ∀ l, samePairs l l = true
  | [] => rfl
  | p :: l => by rw [samePairs, if_pos rfl]; exact samePairs_self l
theorem samePairs_eq : ∀ {l r}, samePairs l r = true → l = r
  | [], [], _ => rfl
  | p :: l, q :: r, h => by
    rw [samePairs] at h
    split at h
    · rename_i e; subst e; rw [samePairs_eq h]
    · cases h
  | [], _ :: _, h => by cases h
  | _ :: _, [], h => by cases h

theorem pair_bne (p q : Pair) : (!((p.1.toList == q.1.toList) && (p.2.toList == q.2.toList))) = !decide (p = q) := by
  rcases p with ⟨p1, p2⟩
  rcases q with ⟨q1, q2⟩
  congr 1
  by_cases h1 : p1 = q1
  · by_cases h2 : p2 = q2
    · simp [h1, h2]
    · have : p2.toList ≠ q2.toList := fun e => h2 (toList_inj e)
      simp [h2, this]
  · have : p1.toList ≠ q1.toList := fun e => h1 (toList_inj e)
    simp [h1, this]
theorem attr_under : Tryz.prog.underlying 98 = some (.struct (Tryz.prog.fieldsOf 98)) := by kernel_rfl
theorem attr_stood : Tryz.prog.stoodInHeld 98 = false := by kernel_rfl
theorem neq_attr (p q : Pair) (u : World) : (binOp .neq 98 (.agg #[.string p.1, .string p.2]) (.agg #[.string q.1, .string q.2])).run Tryz.prog u = .ok (.bool (!decide (p = q))) u := by
  rw [← pair_bne, run_neq_struct, show (10000 : Nat) = 9999 + 1 from rfl, run_equalIn_agg _ _ _ _ _ attr_under attr_stood]
  simp [go_sem, Op.eqFields]
  by_cases h1 : p.1.toList = q.1.toList <;> by_cases h2 : p.2.toList = q.2.toList <;> simp [h1, h2]
theorem eql_attr (p q : Pair) (u : World) : (binOp .eql 98 (.agg #[.string p.1, .string p.2]) (.agg #[.string q.1, .string q.2])).run Tryz.prog u = .ok (.bool (decide (p = q))) u := by
  rw [← Bool.not_not (decide (p = q)), ← pair_bne, run_eql_struct, show (10000 : Nat) = 9999 + 1 from rfl, run_equalIn_agg _ _ _ _ _ attr_under attr_stood]
  simp [go_sem, Op.eqFields]
  by_cases h1 : p.1.toList = q.1.toList <;> by_cases h2 : p.2.toList = q.2.toList <;> simp [h1, h2]

end Go.Proofs.YtclflmjpdglgiaaGreat
