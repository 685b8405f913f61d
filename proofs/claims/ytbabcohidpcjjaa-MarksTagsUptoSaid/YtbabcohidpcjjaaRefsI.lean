/-
  Contracts: colanderref09.Small, refs.value, colanderref12.digit: what a digit says.
-/
import Derived.Test.YtbabcohidpcjjaaRefsB
import Derived.Test.YtbabcohidpcjjaaCalm
import Derived.Test.YtbabcohidpcjjaaMemB
import Derived.Deep.QuietTactic
import Derived.BigQuiet
import Derived.Deep.RegionWith
namespace Go.Proofs.Ytbabcohidpcjjaa
open Go.RowKit Mem

def smallI (n : Int) : Int := if 65 ≤ n ∧ n ≤ 90 then n + 32 else n
theorem ret_vb {x : Int} {d b : Nat} (h : x = d) : Ending.returned (.tuple #[.int .i64 x, .bool (decide (x < (b : Int)))]) = .returned (.tuple #[.int .i64 d, .bool (decide (d < b))]) := by
  subst h
  simp
theorem value_any (n b : Nat) (hn : n < 256) (w : World) : Calls Try.prog 80 #[.int .u8 n, .int .i64 b] w fun e w' => e = .returned (.tuple #[.int .i64 (digV n), .bool (decide (digV n < b))]) ∧ w = w' := by
  have HV : Hid (digV n = if 48 ≤ n ∧ n ≤ 57 then n - 48 else if 97 ≤ n ∧ n ≤ 102 then n - 97 + 10 else if 65 ≤ n ∧ n ≤ 70 then n - 65 + 10 else 99) := by show _ = _; rfl
  go_enter Try.func80, Try.ntmps80
  go_wp2_with fail
  all_goals go_ret2
  all_goals exact ⟨ret_vb (by have h := HV.out; clear HV; (repeat' split at h) <;> omega), rfl⟩
def hexL : List Nat := [48, 49, 50, 51, 52, 53, 54, 55, 56, 57, 97, 98, 99, 100, 101, 102]
theorem hex_index : ∀ k : Nat, k < 16 → ∀ w, (Instr.index 9 (.string ⟨#[48, 49, 50, 51, 52, 53, 54, 55, 56, 57, 97, 98, 99, 100, 101, 102]⟩) (.int .i64 (k : Nat))).run Try.prog w = .ok (.int .u8 (hexL.getD k 0 : Nat)) w
  | 0, _ => fun _ => by kernel_rfl
  | 1, _ => fun _ => by kernel_rfl
  | 2, _ => fun _ => by kernel_rfl
  | 3, _ => fun _ => by kernel_rfl
  | 4, _ => fun _ => by kernel_rfl
  | 5, _ => fun _ => by kernel_rfl
  | 6, _ => fun _ => by kernel_rfl
  | 7, _ => fun _ => by kernel_rfl
  | 8, _ => fun _ => by kernel_rfl
  | 9, _ => fun _ => by kernel_rfl
  | 10, _ => fun _ => by kernel_rfl
  | 11, _ => fun _ => by kernel_rfl
  | 12, _ => fun _ => by kernel_rfl
  | 13, _ => fun _ => by kernel_rfl
  | 14, _ => fun _ => by kernel_rfl
  | 15, _ => fun _ => by kernel_rfl
  | n + 16, h => absurd h (by omega)
def smallN (n : Nat) : Nat := if 65 ≤ n ∧ n ≤ 90 then n + 32 else n
theorem smallI_nat (n : Nat) : smallI n = (smallN n : Nat) := by unfold smallI smallN; split <;> split <;> omega
theorem hex_hit (n k : Nat) (hn : n < 256) (hk : k < 16) : (smallI n == ((hexL.getD k 0 : Nat) : Int)) = decide (digV n = k) := by
  have h : ((List.range 256).all fun n => (List.range 16).all fun k => (smallN n == hexL.getD k 0) == decide (digV n = k)) = true := by decide +kernel
  have h1 := List.all_eq_true.1 (List.all_eq_true.1 h n (List.mem_range.2 hn)) k (List.mem_range.2 hk)
  rw [smallI_nat, ← beq_iff_eq.1 h1, Bool.eq_iff_iff]
  simp only [beq_iff_eq]
  omega
def digI (n b : Nat) : Int := if digV n < b then (digV n : Int) else -1
end Go.Proofs.Ytbabcohidpcjjaa
