/-
  A text that is written with references is read as itself: plain Lean, no Go.
-/
import Derived.Test.YtbabcohidpcjjaaMkRw
namespace Go.Proofs.Ytbabcohidpcjjaa
open Mem

theorem escG_ok (attr : Bool) : ∀ (s : Str) (skip : Bool), OkB s → OkB (escG attr skip s)
  | [], skip, _ => by cases skip <;> exact fun _ h => by cases h
  | d :: r, true, h => by
    rw [escG]
    exact escG_ok attr r false fun y hy => h y (List.mem_cons_of_mem _ hy)
  | d :: r, false, h => by
    have hr : OkB r := fun y hy => h y (List.mem_cons_of_mem _ hy)
    rw [escG]
    split
    · refine OkB.append ?_ (escG_ok attr r true hr)
      unfold OkB; decide
    · refine OkB.append ?_ (escG_ok attr r false hr)
      unfold escOne
      split
      · unfold OkB; decide
      · split
        · unfold OkB; decide
        · split
          · unfold OkB; decide
          · split
            · unfold OkB; decide
            · intro x hx
              rw [List.mem_singleton.1 hx]
              exact h d List.mem_cons_self
theorem esc_none (attr : Bool) {s : Str} (h : escS attr s = []) : s = [] := by
  have := allS_escS s attr false
  rw [h] at this
  exact this.symm
/-- all of a text without a <, nothing more coming -/
theorem textF_all {m : MkM} (hc : m.closed = true) (hm : m.mode ≠ 2) (x : Str) {k : Int} (hx : textF m x = ([], x, k)) (hx2 : x = [] ∨ ∃ y, x = 60 :: y) : ∀ (n : Nat) (s : Str), s.length ≤ n → (∀ c ∈ s, c ≠ 60) → textF m (s ++ x) = (allS s false, x, k) := by
  intro n
  induction n with
  | zero =>
    intro s hs _
    obtain rfl : s = [] := List.eq_nil_of_length_eq_zero (by omega)
    rw [List.nil_append, hx, allS_nil]
  | succ n ih =>
    intro s hs h
    cases s with
    | nil => rw [List.nil_append, hx, allS_nil]
    | cons c r =>
      simp only [List.length_cons] at hs
      have h60 := h c List.mem_cons_self
      have hr : ∀ c ∈ r, c ≠ 60 := fun y hy => h y (List.mem_cons_of_mem _ hy)
      have i1 := ih r (by omega) hr
      rw [List.cons_append, textF.eq_2, if_neg h60, allS_cons]
      by_cases h38 : c = 38
      · rw [if_pos ⟨h38, hm⟩, if_neg (by rw [hc]; simp)]
        have ht : takeF (c :: (r ++ x)) false = takeF (c :: r) false := by
          rcases hx2 with rfl | ⟨y, rfl⟩
          · rw [List.append_nil]
          · have := takeF_stop (c :: r) y false
            rwa [List.cons_append] at this
        rw [ht]
        have hle := takeF_le (c :: r) false
        simp only [List.length_cons] at hle
        by_cases h0 : (takeF (c :: r) false).2 = 0
        · rw [if_pos h0, h0, if_neg (fun hh => hh.2 rfl)]
          simp only [Nat.zero_sub, List.drop_zero]
          rw [i1, h38]
          rfl
        · rw [if_neg h0, if_pos ⟨h38, h0⟩, drop_more (by omega)]
          obtain ⟨j, hj⟩ : ∃ j, (takeF (c :: r) false).2 = j + 1 := ⟨(takeF (c :: r) false).2 - 1, by omega⟩
          rw [hj, Nat.add_sub_cancel, List.drop_succ_cons, ih (r.drop j) (by rw [List.length_drop]; omega) (fun y hy => hr y (List.mem_of_mem_drop hy))]
      · rw [if_neg (fun hh => h38 hh.1), if_neg (fun hh => h38 hh.1), i1]
theorem marks_esc {t : Str} (ht : OkB t) : marksF (escS false t) = (txF t, 0) := by
  have ho : ∀ c ∈ escS false t, c ≠ 13 ∧ c ≠ 0 := fun c hc => by have := escG_ok false t false ht c hc; exact ⟨this.2, this.1⟩
  have hn : ∀ m : MkM, textF m [] = ([], [], 1) := fun m => by rw [textF]
  have h1 := textF_all (m := shutM (escS false t)) rfl (by show (0 : Int) ≠ 2; decide) [] (hn _) (.inl rfl) _ (escS false t) (Nat.le_refl _) (fun c hc => (escG_signs false t false c hc).1)
  rw [List.append_nil, allS_escS] at h1
  have d := drain_text (m := shutM (escS false t)) rfl rfl h1 (hn _)
  have d2 := drain_none (m := { shutM (escS false t) with buf := [] }) rfl rfl rfl
  rw [d2] at d
  rw [marks_shut ho, d]
  simp only
  rw [if_neg (fun h => h rfl), List.append_nil, join_tx']

/-! a reader in the mode of references -/
def titleW : Str := ([116, 105, 116, 108, 101] : List UInt8)
theorem title_name : Name titleW := ⟨by decide, by decide⟩
def titT (s : Str) : Str := tagT false titleW [] false ++ (s ++ (tagT true titleW [] false))
/-- a reader at a text's beginning -/
def newM (s : Str) : MkM := { zeroM with buf := putF false s, cr := putC false s, closed := true }
theorem tag_told {m : MkM} (hp : m.pass = 0) {e : Bool} (hk : textF m m.buf = ([], m.buf, if e then 3 else 2)) (hn : 0 ≤ (parseF (m.buf.take 2049) e).2.1) (hl : (parseF (m.buf.take 2049) e).2.1 ≤ 2048) (h0 : (parseF (m.buf.take 2049) e).2.2 = 0) :
    oneF m = ((parseF (m.buf.take 2049) e).1, true, false, { m with buf := m.buf.drop (parseF (m.buf.take 2049) e).2.1.toNat, mode := if e then 0 else m.mode }) := by
  have h1 := one_tag hp hk
  have hlt : (m.buf.take 2049).length = min 2049 m.buf.length := List.length_take
  obtain ⟨p, hpp⟩ : ∃ p, p = parseF (m.buf.take 2049) e := ⟨_, rfl⟩
  obtain ⟨x, n, er0⟩ := p
  unfold tagF at h1
  simp only [← hpp, hlt] at h1
  rw [← hpp] at hn hl h0 ⊢
  simp only at hn hl h0 ⊢
  have hc1 : ¬ (n > 2048 ∨ (n < 0 ∧ 2048 < min 2049 m.buf.length)) := by omega
  rw [if_neg hc1, h0, if_neg (fun h => h rfl), if_neg (by omega)] at h1
  rw [h1]
  cases e <;> rfl
def titE : Str := tagT true titleW [] false
def titM (t : Str) : MkM := { zeroM with buf := escS false t ++ titE, cr := putC false (titT (escS false t)), closed := true }
theorem titT_ok {s : Str} (h : OkB s) : OkB (titT s) := by
  have h1 : OkB (tagT false titleW [] false) := by unfold OkB; decide
  have h2 : OkB (tagT true titleW [] false) := by unfold OkB; decide
  exact h1.append (h.append h2)
theorem title_one {t : Str} (ht : OkB t) : readF (newM (titT (escS false t))) = (some (startM titleW), titM t) := by
  have hok := titT_ok (escG_ok false t false ht)
  have hb : putF false (titT (escS false t)) = titT (escS false t) := putF_same _ fun c hc => ⟨(hok c hc).2, (hok c hc).1⟩
  obtain ⟨M, hM⟩ : ∃ M, M = newM (titT (escS false t)) := ⟨_, rfl⟩
  have hb0 : M.buf = titT (escS false t) := by rw [hM]; exact hb
  have k0 : textF M M.buf = ([], M.buf, if false = true then 3 else 2) := by
    rw [hb0]
    exact textF_tag (m := M) (by rw [hM]; rfl) false (c := 116) (by decide) _
  have p0 := tag_parse false title_name (by decide) (escS false t ++ titE)
  rw [show tagT false titleW [] false ++ (escS false t ++ titE) = M.buf from hb0.symm] at p0
  have d := tag_told (m := M) (by rw [hM]; rfl) k0 (by rw [p0]; exact Int.natCast_nonneg _) (by rw [p0]; decide) (by rw [p0])
  rw [p0] at d
  simp only [Bool.false_eq_true, if_false, Int.toNat_natCast] at d
  have hdrop : M.buf.drop (tagT false titleW [] false).length = escS false t ++ titE := by rw [hb0, titT, List.drop_append, List.drop_length, Nat.sub_self]; rfl
  rw [hdrop] at d
  rw [← hM, readF_told (by rw [hM]; rfl) (by rw [d]), d, hM]
  rfl
theorem title_two {t : Str} : ∃ m, readF (setF (titM t) 1 titleW) = (some (if t = [] then stopM titleW else textM t), m) ∧ m.err = 0 := by
  have hs : setF (titM t) 1 titleW = { titM t with mode := 1, name := titleW } := by
    unfold setF
    rw [if_pos (by decide)]
  rw [hs]
  obtain ⟨M, hM⟩ : ∃ M : MkM, M = { titM t with mode := 1, name := titleW } := ⟨_, rfl⟩
  rw [← hM]
  have hb : M.buf = escS false t ++ titE := by rw [hM]; rfl
  have hE : titE = 60 :: 47 :: (titleW ++ 62 :: []) := rfl
  have hk : textF M titE = ([], titE, 3) := by
    rw [hE]
    refine textF_ltk ?_ (by decide)
    unfold lookF
    rw [if_pos (by rw [hM]; show (1 : Int) ≠ 0; decide)]
    exact endsF_yes (by rw [hM]) title_name []
  have hx := textF_all (m := M) (by rw [hM]; rfl) (by rw [hM]; show (1 : Int) ≠ 2; decide) titE hk (.inr ⟨_, hE⟩) _ (escS false t) (Nat.le_refl _) (fun c hc => (escG_signs false t false c hc).1)
  rw [allS_escS, ← hb] at hx
  by_cases h : t = []
  · subst h
    have hb2 : M.buf = titE := by rw [hb]; rfl
    have k0 : textF M M.buf = ([], M.buf, if true = true then 3 else 2) := by rw [hb2]; exact hk
    have p0 := tag_parse true title_name (by decide) []
    rw [List.append_nil, show tagT true titleW [] false = M.buf from hb2.symm] at p0
    have d := tag_told (m := M) (by rw [hM]; rfl) k0 (by rw [p0]; exact Int.natCast_nonneg _) (by rw [p0, hb2]; decide) (by rw [p0])
    rw [readF_told (by rw [hM]; rfl) (by rw [d]), d, p0]
    exact ⟨_, rfl, by rw [hM]; rfl⟩
  · have e : oneF M = (textM t, true, false, { M with buf := titE }) := by
      rw [step_one (by rw [hM]; rfl)]
      unfold stepF
      rw [hx]
      simp only
      rw [if_pos h]
    rw [readF_told (by rw [hM]; rfl) (by rw [e]), e, if_neg h]
    exact ⟨_, rfl, by rw [hM]; rfl⟩
end Go.Proofs.Ytbabcohidpcjjaa
