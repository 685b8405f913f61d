/-
  Contracts: colanderref13.SameAttrs: are two lists of attributes the same? The world stays but for draws.
-/
import Derived.Test.YtbabcohidpcjjaaRows
import Derived.Test.YtbabcohidpcjjaaMem
import Derived.Deep.QuietTactic
import Derived.BigQuiet
import Derived.Deep.RegionWith
namespace Go.Proofs.Ytbabcohidpcjjaa
open Go.RowKit Mem

def samePairs : List Pair → List Pair → Bool
  | [], [] => true
  | p :: l, q :: r => if p = q then samePairs l r else false
  | _, _ => false
theorem samePairs_step (l r : List Pair) (k : Nat) (h1 : k < l.length) (h2 : k < r.length) (he : l[k] = r[k]) : samePairs (l.drop k) (r.drop k) = samePairs (l.drop (k + 1)) (r.drop (k + 1)) := by
  rw [List.drop_eq_getElem_cons h1, List.drop_eq_getElem_cons h2, samePairs, if_pos he]
theorem samePairs_miss (l r : List Pair) (k : Nat) (h1 : k < l.length) (h2 : k < r.length) (he : l[k] ≠ r[k]) : samePairs (l.drop k) (r.drop k) = false := by
  rw [List.drop_eq_getElem_cons h1, List.drop_eq_getElem_cons h2, samePairs, if_neg he]
theorem samePairs_len : ∀ (l r : List Pair), l.length ≠ r.length → samePairs l r = false
  | [], [], h => absurd rfl h
  | [], _ :: _, _ => rfl
  | _ :: _, [], _ => rfl
  | p :: l, q :: r, h => by
    rw [samePairs]
    split
    · exact samePairs_len l r (by simpa using h)
    · rfl
theorem samePairs_self : ∀ l, samePairs l l = true
  | [] => rfl
  | p :: l => by rw [samePairs, if_pos rfl]; exact samePairs_self l
theorem samePairs_eq : ∀ {l r}, samePairs l r = true → l = r
  | [], [], _ => rfl
  | p :: l, q :: r, h => by
    rw [samePairs] at h
    split at h
    · rename_i e; subst e; rw [samePairs_eq h]
    · cases h
  | [], _ :: _, h => by cases h
  | _ :: _, [], h => by cases h

theorem pair_bne (p q : Pair) : (!((p.1.toList == q.1.toList) && (p.2.toList == q.2.toList))) = !decide (p = q) := by
  rcases p with ⟨p1, p2⟩
  rcases q with ⟨q1, q2⟩
  congr 1
  by_cases h1 : p1 = q1
  · by_cases h2 : p2 = q2
    · simp [h1, h2]
    · have : p2.toList ≠ q2.toList := fun e => h2 (toList_inj e)
      simp [h2, this]
  · have : p1.toList ≠ q1.toList := fun e => h1 (toList_inj e)
    simp [h1, this]
theorem attr_under : Try.prog.underlying 38 = some (.struct (Try.prog.fieldsOf 38)) := by kernel_rfl
theorem attr_stood : Try.prog.stoodInHeld 38 = false := by kernel_rfl
theorem neq_attr (p q : Pair) (u : World) : (binOp .neq 38 (.agg #[.string p.1, .string p.2]) (.agg #[.string q.1, .string q.2])).run Try.prog u = .ok (.bool (!decide (p = q))) u := by
  rw [← pair_bne, run_neq_struct, show (10000 : Nat) = 9999 + 1 from rfl, run_equalIn_agg _ _ _ _ _ attr_under attr_stood]
  simp [go_sem, Op.eqFields]
  by_cases h1 : p.1.toList = q.1.toList <;> by_cases h2 : p.2.toList = q.2.toList <;> simp [h1, h2]
theorem eql_attr (p q : Pair) (u : World) : (binOp .eql 38 (.agg #[.string p.1, .string p.2]) (.agg #[.string q.1, .string q.2])).run Try.prog u = .ok (.bool (decide (p = q))) u := by
  rw [← Bool.not_not (decide (p = q)), ← pair_bne, run_eql_struct, show (10000 : Nat) = 9999 + 1 from rfl, run_equalIn_agg _ _ _ _ _ attr_under attr_stood]
  simp [go_sem, Op.eqFields]
  by_cases h1 : p.1.toList = q.1.toList <;> by_cases h2 : p.2.toList = q.2.toList <;> simp [h1, h2]

set_option maxHeartbeats 400000 in
theorem sameAttrs_any (l r : List Pair) (a a' : Option Addr) (c c' : Nat) (w : World) (hl : l.length ≤ maxLen) (_hr : r.length ≤ maxLen) (ha : At w a (pairsV l)) (ha' : At w a' (pairsV r)) :
    Calls Try.prog 34 #[.slice a l.length c, .slice a' r.length c'] w fun e w' => e = .returned (.bool (samePairs l r)) ∧ ∃ n, w' = w.drewN n := by
  have HA := Lib.hid ha
  have HA' := Lib.hid ha'
  clear ha ha'
  unfold maxLen at hl
  by_cases hlen : l.length = r.length
  · have h0 : ((l.length : Int) != (r.length : Int)) = false := by simp [hlen]
    have HL := Lib.hid hlen
    clear hlen
    go_enter Try.func34, Try.ntmps34
    go_wp2
    clear h0
    go_loopw [5] (fun i wr => ∃ k : Nat, k ≤ l.length ∧ i = .int .i64 k ∧ (∃ n, wr = w.drewN n) ∧ samePairs l r = samePairs (l.drop k) (r.drop k)) (fun i _ => l.length - (intOf i).toNat)
    case atStart => exact ⟨0, Nat.zero_le _, rfl, ⟨0, rfl⟩, rfl⟩
    case round =>
      obtain ⟨k, hk, rfl, ⟨n, rfl⟩, hv⟩ := hrel
      have HV := Lib.hid hv
      clear hv
      by_cases hlt : k < l.length
      · have hlt' : k < r.length := by have := HL.out; omega
        obtain ⟨b, o, rfl, hlb, h1, h2⟩ := pair_cells HA.out hlt
        obtain ⟨b', o', rfl, hlb', h1', h2'⟩ := pair_cells HA'.out hlt'
        have hne := neq_attr l[k] r[k]
        by_cases he : l[k] = r[k]
        · have HE := Lib.hid he
          rw [decide_eq_true he] at hne
          clear he
          go_wp2
          go_quiet (fail)
          go_wp2
          go_roundw
          case rel => exact ⟨k + 1, by omega, by go_num, (by first | exact ⟨_, rfl⟩ | exact ⟨_, drewN_two _ _ _⟩), by rw [HV.out, samePairs_step l r k hlt hlt' HE.out]⟩
          case measure => simp [intOf]; omega
        · have HE := Lib.hid he
          rw [decide_eq_false he] at hne
          clear he
          go_wp2
          go_quiet (fail)
          go_wp2
          go_ret
          exact ⟨ret_bool (by rw [HV.out, samePairs_miss l r k hlt hlt' HE.out]), (by first | exact ⟨_, rfl⟩ | exact ⟨_, drewN_two _ _ _⟩)⟩
      · go_wp2
        go_ret
        exact ⟨ret_bool (by rw [HV.out, List.drop_of_length_le (by omega), List.drop_of_length_le (by have := HL.out; omega)]; rfl), _, rfl⟩
  · have h0 : ((l.length : Int) != (r.length : Int)) = true := by simp; omega
    have HL := Lib.hid hlen
    clear hlen
    go_enter Try.func34, Try.ntmps34
    go_wp2
    go_ret
    exact ⟨ret_bool (samePairs_len l r HL.out).symm, 0, rfl⟩
end Go.Proofs.Ytbabcohidpcjjaa
