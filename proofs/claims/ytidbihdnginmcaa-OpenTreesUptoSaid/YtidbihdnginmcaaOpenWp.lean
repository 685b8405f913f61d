/-
  What OpenWhole counts: for each node, from how many nodes a way up leads through it: plain Lean, no Go. (Layer 14.)
-/
import Derived.Test.YtidbihdnginmcaaOpenOps2
namespace Go.Proofs.Ytidbihdnginmcaa
open Go Mem

theorem made_ints (n : Nat) : (madeCells #[.int .i64 0] (n * 1)).toList = intsV (List.replicate n 0) := by
  apply List.ext_getElem?
  intro j
  have hl : (intsV (List.replicate n 0)).length = n := by rw [intsV_length]; simp
  by_cases hj : j < n
  · have h1 : (intsV (List.replicate n 0))[j]? = some (.int .i64 0) := by
      rw [intsV_get _ j (by simpa using hj)]; simp
    rw [h1]
    simp [madeCells, hj, Nat.mod_one]
  · rw [List.getElem?_eq_none (by simp [madeCells]; omega), List.getElem?_eq_none (by rw [hl]; omega)]

noncomputable def visB (T : TreeD) (n u : Int) (m : Nat) : Bool := decide (1 ≤ m) && belowF T n m && !belowF T u m
/-- m's count, ways from the nodes below n -/
noncomputable def upto (T : TreeD) (n m : Nat) : Nat := (List.range n).countP fun x : Nat => decide (1 ≤ x) && belowF T x m && decide (1 ≤ m)
noncomputable def szs (T : TreeD) (n : Nat) (u : Int) : List Int := (List.range T.nodes.length).map fun m => ((upto T n m + (if visB T n u m then 1 else 0) : Nat) : Int)
theorem szs_len (T : TreeD) (n : Nat) (u : Int) : (szs T n u).length = T.nodes.length := by simp [szs]
theorem szs_get (T : TreeD) (n : Nat) (u : Int) (m : Nat) (h : m < (szs T n u).length) : (szs T n u)[m] = ((upto T n m + (if visB T n u m then 1 else 0) : Nat) : Int) := by simp [szs]
theorem upto_le (T : TreeD) (n m : Nat) : upto T n m ≤ n := by
  have := List.countP_le_length (p := fun x : Nat => decide (1 ≤ x) && belowF T x m && decide (1 ≤ m)) (l := List.range n)
  simpa [upto] using this
theorem szs_zero (T : TreeD) : szs T 1 1 = List.replicate T.nodes.length 0 := by
  apply List.ext_getElem (by simp [szs])
  intro m h1 h2
  rw [szs_get]
  have e1 : upto T 1 m = 0 := by
    rw [upto, List.countP_eq_zero]
    intro x hx
    have : x = 0 := by simpa using hx
    subst this
    simp
  have e2 : visB T ((1 : Nat) : Int) 1 m = false := by
    rw [visB]
    cases belowF T ((1 : Nat) : Int) m <;> simp_all
  rw [e1, e2]
  simp
theorem szs_next (T : TreeD) (n : Nat) (h1 : 1 ≤ n) (u : Int) (hu : u ≤ 0) : szs T n u = szs T (n + 1) ((n + 1 : Nat) : Int) := by
  unfold szs
  refine List.map_congr_left fun m _ => ?_
  congr 1
  have e1 : visB T ((n + 1 : Nat) : Int) ((n + 1 : Nat) : Int) m = false := by
    rw [visB]
    cases belowF T ((n + 1 : Nat) : Int) m <;> simp
  have e2 : upto T (n + 1) m = upto T n m + (if decide (1 ≤ n) && belowF T n m && decide (1 ≤ m) then 1 else 0) := by
    rw [upto, upto, List.range_succ, List.countP_append]
    simp [List.countP_cons]
  have e3 : visB T n u m = (decide (1 ≤ n) && belowF T n m && decide (1 ≤ m)) := by
    rw [visB, belowF_low hu]
    by_cases hm : 1 ≤ m
    · have : (u == (m : Int)) = false := by rw [beq_eq_false_iff_ne]; omega
      rw [this]
      simp [hm, h1]
    · simp [hm]
  rw [e1, e2, e3]
  simp
theorem szs_full (T : TreeD) (u : Int) (hu : u = (T.nodes.length : Int)) (m : Nat) (hm1 : 1 ≤ m) (h : m < (szs T T.nodes.length u).length) : (szs T T.nodes.length u)[m] = (cntF T m : Int) := by
  rw [szs_get]
  have e1 : visB T T.nodes.length u m = false := by
    rw [visB, hu]
    cases belowF T (T.nodes.length : Int) m <;> simp
  rw [e1, upto, cntF]
  simp only [Bool.false_eq_true, if_false, Nat.add_zero]
  congr 1
  refine List.countP_congr fun x _ => ?_
  simp [hm1]

/-- one step up -/
theorem visB_step {T : TreeD} (hw : WF T) {n u : Nat} (hu1 : 1 ≤ u) (hu : u < T.nodes.length) (hr : Reach T u n) (m : Nat) :
    (if visB T n (parentF T u) m then 1 else 0) = (if decide (m = u) then 1 else 0) + (if visB T n u m then 1 else 0) := by
  by_cases hm : m = u
  · subst hm
    have e1 : belowF T n m = true := belowF_true hr
    have e2 : belowF T m m = true := belowF_true .here
    have e3 : belowF T (parentF T m) m = false := by
      cases hb : belowF T (parentF T m) m
      · rfl
      · exfalso
        have hb' : Reach T m (parentF T m) := by simpa [belowF] using hb
        obtain ⟨r, hrk⟩ := hw.rank
        have hp := hw.par m hu
        have h1 := reach_rank hw hrk (by omega) hb' hp.2
        have hp1 : 1 ≤ parentF T m := by
          rcases Int.lt_or_le (parentF T m) 1 with h | h
          · have := (reach_low (T := T) (top := m) (n := parentF T m) (by omega)).1 hb'
            omega
          · exact h
        have := hrk m hu hp1
        omega
    simp [visB, e1, e2, e3, hu1]
  · have e : belowF T (parentF T u) m = belowF T u m := (belowF_congr (reach_up (by omega) (by omega))).symm
    have : visB T n (parentF T u) m = visB T n u m := by rw [visB, visB, e]
    rw [this]
    simp [hm]
theorem szs_step {T : TreeD} (hw : WF T) {n u : Nat} (hu1 : 1 ≤ u) (hu : u < T.nodes.length) (hr : Reach T u n) (h : u < (szs T n u).length) :
    szs T n (parentF T u) = (szs T n u).set u ((szs T n u)[u] + 1) := by
  apply List.ext_getElem (by simp [szs])
  intro m h1 h2
  rw [szs_get, List.getElem_set]
  have hs := visB_step hw hu1 hu hr m
  by_cases hmu : m = u
  · subst hmu
    have e1 : (if decide (m = m) = true then (1 : Nat) else 0) = 1 := if_pos (by simp)
    rw [if_pos rfl, szs_get, hs, e1]
    generalize (if visB T n m m = true then 1 else 0) = z
    omega
  · have e1 : (if decide (m = u) = true then (1 : Nat) else 0) = 0 := if_neg (by simpa using hmu)
    have e2 : ¬ (u = m) := fun e => hmu e.symm
    have h3 : m < (szs T n u).length := by rw [szs_len]; rw [szs_len] at h1; exact h1
    rw [if_neg e2, hs, e1, Nat.zero_add, szs_get T n u m h3]
/-- how many have been passed -/
noncomputable def passed (T : TreeD) (n u : Int) : Nat := (List.range T.nodes.length).countP (visB T n u)
theorem passed_zero (T : TreeD) (n : Int) : passed T n n = 0 := by
  rw [passed, List.countP_eq_zero]
  intro m _
  rw [visB]
  cases belowF T n m <;> simp
theorem passed_step {T : TreeD} (hw : WF T) {n u : Nat} (hu1 : 1 ≤ u) (hu : u < T.nodes.length) (hr : Reach T u n) : passed T n (parentF T u) = passed T n u + 1 := by
  have h := count_swap (fun (_ : Unit) (m : Nat) => decide (m = u)) (visB T n u) (visB T n (parentF T u)) [()] (List.range T.nodes.length) (by
    intro m _
    have := visB_step hw hu1 hu hr m
    simp only [List.countP_cons, List.countP_nil]
    omega)
  have h2 : (List.range T.nodes.length).countP (fun m => decide (m = u)) = 1 :=
    countP_one _ _ List.nodup_range (fun x _ y _ p q => (of_decide_eq_true p).trans (of_decide_eq_true q).symm) ⟨u, List.mem_range.2 hu, by simp⟩
  simp only [List.map_cons, List.map_nil, List.sum_cons, List.sum_nil, h2] at h
  rw [passed, passed]
  omega
theorem passed_le (T : TreeD) (n u : Int) (hp : 0 < T.nodes.length) : passed T n u ≤ T.nodes.length - 1 := by
  obtain ⟨N, hN⟩ : ∃ N, T.nodes.length = N + 1 := ⟨T.nodes.length - 1, by omega⟩
  rw [passed, hN, List.range_succ_eq_map, List.countP_cons]
  have h0 : visB T n u 0 = false := by simp [visB]
  rw [h0]
  have := List.countP_le_length (p := visB T n u) (l := (List.range N).map Nat.succ)
  simp at this ⊢
  exact this
theorem intsV_set (l : List Int) (m : Nat) (v : Int) : intsV (l.set m v) = (intsV l).set m (.int .i64 v) := by
  simp [intsV, List.map_set]
theorem reach_more {T : TreeD} {u n : Int} (h : Reach T u n) (h0 : 0 < u) : Reach T (parentF T u) n := by
  induction h with
  | here => exact .up h0 .here
  | up h1 _ ih => exact .up h1 ih
theorem szs_small (T : TreeD) (n : Nat) (u : Int) (m : Nat) (h : m < (szs T n u).length) : 0 ≤ (szs T n u)[m] ∧ (szs T n u)[m] ≤ n + 1 := by
  rw [szs_get]
  have := upto_le T n m
  have h2 : (if visB T n u m then 1 else 0) ≤ 1 := by split <;> omega
  generalize (if visB T n u m then 1 else 0) = z at *
  omega
end Go.Proofs.Ytidbihdnginmcaa
