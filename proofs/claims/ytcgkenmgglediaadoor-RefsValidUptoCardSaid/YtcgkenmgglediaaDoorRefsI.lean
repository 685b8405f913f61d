/-
  Contracts: colanderref09.Small, refs.value, colanderref12.digit: what a digit says.
-/
import Derived.Test.YtcgkenmgglediaaDoorRefsB
import Derived.Test.YtcgkenmgglediaaDoorCalm
import Derived.Test.YtcgkenmgglediaaDoorMemB
import Derived.Deep.QuietTactic
import Derived.BigQuiet
import Derived.Deep.RegionWith
namespace Go.Proofs.YtcgkenmgglediaaDoor
open Go.RowKit Mem

def smallI (n : Int) : Int := if 65 ≤ n ∧ n ≤ 90 then n + 32 else n
theorem Small_any (n : Int) (w : World) (h0 : 0 ≤ n) (h1 : n ≤ 255) :
    Calls Tryd.prog 41 #[.int .u8 n] w fun e w' => e = .returned (.int .u8 (smallI n)) ∧ w = w' := by
  go_enter Tryd.func41, Tryd.ntmps41
  go_wp2
  all_goals go_ret
  all_goals refine ⟨ret_int ?_, rfl⟩
  all_goals (unfold smallI; split <;> omega)

theorem ret_vb {x : Int} {d b : Nat} (h : x = d) : Ending.returned (.tuple #[.int .i64 x, .bool (decide (x < (b : Int)))]) = .returned (.tuple #[.int .i64 d, .bool (decide (d < b))]) := by
  subst h
  simp
theorem value_any (n b : Nat) (hn : n < 256) (w : World) : Calls Tryd.prog 54 #[.int .u8 n, .int .i64 b] w fun e w' => e = .returned (.tuple #[.int .i64 (digV n), .bool (decide (digV n < b))]) ∧ w = w' := by
  have HV : Hid (digV n = if 48 ≤ n ∧ n ≤ 57 then n - 48 else if 97 ≤ n ∧ n ≤ 102 then n - 97 + 10 else if 65 ≤ n ∧ n ≤ 70 then n - 65 + 10 else 99) := by show _ = _; rfl
  go_enter Tryd.func54, Tryd.ntmps54
  go_wp2_with fail
  all_goals go_ret2
  all_goals exact ⟨ret_vb (by have h := HV.out; clear HV; (repeat' split at h) <;> omega), rfl⟩
def hexL : List Nat := [48, 49, 50, 51, 52, 53, 54, 55, 56, 57, 97, 98, 99, 100, 101, 102]
theorem hex_index : ∀ k : Nat, k < 16 → ∀ w, (Instr.index 9 (.string ⟨#[48, 49, 50, 51, 52, 53, 54, 55, 56, 57, 97, 98, 99, 100, 101, 102]⟩) (.int .i64 (k : Nat))).run Tryd.prog w = .ok (.int .u8 (hexL.getD k 0 : Nat)) w
  | 0, _ => fun _ => by kernel_rfl
  | 1, _ => fun _ => by kernel_rfl
  | 2, _ => fun _ => by kernel_rfl
  | 3, _ => fun _ => by kernel_rfl
  | 4, _ => fun _ => by kernel_rfl
  | 5, _ => fun _ => by kernel_rfl
  | 6, _ => fun _ => by kernel_rfl
  | 7, _ => fun _ => by kernel_rfl
  | 8, _ => fun _ => by kernel_rfl
  | 9, _ => fun _ => by kernel_rfl
  | 10, _ => fun _ => by kernel_rfl
  | 11, _ => fun _ => by kernel_rfl
  | 12, _ => fun _ => by kernel_rfl
  | 13, _ => fun _ => by kernel_rfl
  | 14, _ => fun _ => by kernel_rfl
  | 15, _ => fun _ => by kernel_rfl
  | n + 16, h => absurd h (by omega)
def smallN (n : Nat) : Nat := if 65 ≤ n ∧ n ≤ 90 then n + 32 else n
theorem smallI_nat (n : Nat) : smallI n = (smallN n : Nat) := by unfold smallI smallN; split <;> split <;> omega
theorem hex_hit (n k : Nat) (hn : n < 256) (hk : k < 16) : (smallI n == ((hexL.getD k 0 : Nat) : Int)) = decide (digV n = k) := by
  have h : ((List.range 256).all fun n => (List.range 16).all fun k => (smallN n == hexL.getD k 0) == decide (digV n = k)) = true := by decide +kernel
  have h1 := List.all_eq_true.1 (List.all_eq_true.1 h n (List.mem_range.2 hn)) k (List.mem_range.2 hk)
  rw [smallI_nat, ← beq_iff_eq.1 h1, Bool.eq_iff_iff]
  simp only [beq_iff_eq]
  omega
def digI (n b : Nat) : Int := if digV n < b then (digV n : Int) else -1
theorem digit_any (n b : Nat) (hn : n < 256) (hb : b ≤ 16) (w : World) : Calls Tryd.prog 55 #[.int .u8 n, .int .i64 b] w fun e w' => e = .returned (.int .i64 (digI n b)) ∧ Below w.heap.size w w' := by
  have HS := Lib.hid (fun u => Small_any n u (by omega) (by omega))
  go_enter Tryd.func55, Tryd.ntmps55
  go_wp2_with fail
  go_loopw [6] (fun i wr => ∃ k : Nat, k ≤ b ∧ i = .int .i64 k ∧ (∀ j, j < k → digV n ≠ j) ∧ Below w.heap.size w wr) (fun i _ => b - (intOf i).toNat)
  case atStart => exact ⟨0, Nat.zero_le _, rfl, fun j hj => absurd hj (Nat.not_lt_zero j), Below.refl _ _⟩
  case round =>
    obtain ⟨k, hk, rfl, hv, hb⟩ := hrel
    have HV := Lib.hid hv
    have HB := Lib.hid hb
    clear hv hb
    by_cases hlt : k < b
    · have hk16 : k < 16 := by omega
      have hix := hex_index k hk16
      have hh := hex_hit n k hn hk16
      generalize smallI (n : Int) = sv at *
      generalize hexL.getD k 0 = hv at *
      by_cases he : digV n = k
      · rw [decide_eq_true he] at hh
        have HE := Lib.hid he
        clear he
        go_wp2_with fail
        refine wp_region_calm (by kernel_rfl) (by kernel_rfl) ?_
        repeat
          with_reducible refine wpQuiet_step (fun K hK => ?_)
          first
            | (with_reducible apply calm_skip
               · rfl
               simp only [Act.put, List.setIfInBounds_toArray, List.set_cons_zero, List.set_cons_succ]
               refine hK _ ?_
               clear hK K)
            | (with_reducible apply calm_run
               · rfl
               · intro wq hC
                 unfold Oper.quietAt
                 go_simp
                 first | done | (go_at_call 41; go_must (refine (HS.out _).mono ?_; rintro e wx ⟨rfl, rfl⟩; exact ⟨rfl, hC⟩)) | with_reducible rfl | rfl
               simp only [Act.put, List.setIfInBounds_toArray, List.set_cons_zero, List.set_cons_succ]
               refine hK _ ?_
               clear hK K)
        with_reducible refine wpQuiet_nil ?_
        intro wq HQ
        go_wp2_with fail
        go_ret
        exact ⟨ret_int (by rw [digI, if_pos (by rw [HE.out]; exact hlt), HE.out]), belowCall HB.out HQ.out⟩
      · rw [decide_eq_false he] at hh
        have HE := Lib.hid he
        clear he
        go_wp2_with fail
        refine wp_region_calm (by kernel_rfl) (by kernel_rfl) ?_
        repeat
          with_reducible refine wpQuiet_step (fun K hK => ?_)
          first
            | (with_reducible apply calm_skip
               · rfl
               simp only [Act.put, List.setIfInBounds_toArray, List.set_cons_zero, List.set_cons_succ]
               refine hK _ ?_
               clear hK K)
            | (with_reducible apply calm_run
               · rfl
               · intro wq hC
                 unfold Oper.quietAt
                 go_simp
                 first | done | (go_at_call 41; go_must (refine (HS.out _).mono ?_; rintro e wx ⟨rfl, rfl⟩; exact ⟨rfl, hC⟩)) | with_reducible rfl | rfl
               simp only [Act.put, List.setIfInBounds_toArray, List.set_cons_zero, List.set_cons_succ]
               refine hK _ ?_
               clear hK K)
        with_reducible refine wpQuiet_nil ?_
        intro wq HQ
        go_wp2_with fail
        go_roundw
        case rel => exact ⟨k + 1, by omega, by go_num, fun j hj => by rcases Nat.lt_or_ge j k with h | h; exact HV.out j h; (have : j = k := by omega); rw [this]; exact HE.out, belowCall HB.out HQ.out⟩
        case measure => simp [intOf]; omega
    · go_wp2_with fail
      go_ret
      exact ⟨ret_int (by rw [digI, if_neg]; intro h; exact HV.out (digV n) (by omega) rfl), HB.out⟩
end Go.Proofs.YtcgkenmgglediaaDoor
