/-
  Bytes in small letters: plain Lean. No conditions beyond those that each lemma types.
-/
import Derived.Test.YtbabcohidpcjjaaMem
namespace Go.Proofs.Ytbabcohidpcjjaa
open Go.RowKit Mem

/-- a byte in small letters -/
def lowB (b : UInt8) : UInt8 := if 65 ≤ b ∧ b ≤ 90 then b + 32 else b
def lowS (l : Str) : Str := l.map lowB
def mixS (k : Nat) (l : Str) : Str := (l.take k).map lowB ++ l.drop k

theorem lowB_nat (b : UInt8) : ((lowB b).toNat : Int) = if 65 ≤ (b.toNat : Int) ∧ (b.toNat : Int) ≤ 90 then (b.toNat : Int) + 32 else b.toNat := by
  have h1 : (65 ≤ b) ↔ 65 ≤ (b.toNat : Int) := by rw [UInt8.le_iff_toNat_le]; simp; omega
  have h2 : (b ≤ 90) ↔ (b.toNat : Int) ≤ 90 := by rw [UInt8.le_iff_toNat_le]; simp; omega
  unfold lowB
  by_cases h : 65 ≤ (b.toNat : Int) ∧ (b.toNat : Int) ≤ 90
  · rw [if_pos h, if_pos ⟨h1.2 h.1, h2.2 h.2⟩, UInt8.toNat_add]
    simp
    omega
  · rw [if_neg h, if_neg (fun hh => h ⟨h1.1 hh.1, h2.1 hh.2⟩)]

theorem mixS_length (k : Nat) (l : Str) : (mixS k l).length = l.length := by simp [mixS]; omega
theorem mixS_zero (l : Str) : mixS 0 l = l := by simp [mixS]
theorem mixS_all (l : Str) : mixS l.length l = lowS l := by simp [mixS, lowS]
theorem mixS_get (k : Nat) (l : Str) (h : k < l.length) : (mixS k l)[k]? = some l[k] := by
  simp only [mixS]
  rw [List.getElem?_append_right (by simp; omega)]
  simp [Nat.min_eq_left (Nat.le_of_lt h), h]
theorem mixS_succ (k : Nat) (l : Str) (h : k < l.length) : (mixS k l).set k (lowB l[k]) = mixS (k + 1) l := by
  simp only [mixS]
  rw [List.set_append_right _ _ (by simp; omega), List.drop_eq_getElem_cons h]
  simp only [List.length_map, List.length_take, Nat.min_eq_left (Nat.le_of_lt h), Nat.sub_self, List.set_cons_zero]
  rw [List.take_succ_eq_append_getElem h, List.map_append]
  simp
theorem bytesV_mix_succ (k : Nat) (l : Str) (h : k < l.length) (v : Value) (hv : v = .int .u8 (lowB l[k]).toNat) : (bytesV (mixS k l)).set k v = bytesV (mixS (k + 1) l) := by
  subst hv
  unfold bytesV
  rw [← mixS_succ k l h, List.map_set]
theorem bytesV_mix_same (k : Nat) (l : Str) (h : k < l.length) (hv : ((lowB l[k]).toNat : Int) = l[k].toNat) : bytesV (mixS k l) = bytesV (mixS (k + 1) l) := by
  rw [← bytesV_mix_succ k l h (.int .u8 l[k].toNat) (by rw [hv])]
  have hg : (bytesV (mixS k l))[k]? = some (.int .u8 l[k].toNat) := by simp [bytesV, mixS_get k l h]
  obtain ⟨hk, he⟩ := List.getElem?_eq_some_iff.1 hg
  rw [← he, List.set_getElem_self]
theorem bytesV_mix_get (k : Nat) (l : Str) (h : k < l.length) : (bytesV (mixS k l))[k]? = some (.int .u8 l[k].toNat) := by
  simp [bytesV, mixS_get k l h]
end Go.Proofs.Ytbabcohidpcjjaa
