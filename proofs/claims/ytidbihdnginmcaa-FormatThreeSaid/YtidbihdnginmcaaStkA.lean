/-
  Contracts: the open elements (open.Stack) in a form that stands beside a tree: what they hold in memory; Stack, All, Top, Find.
-/
import Derived.Test.YtidbihdnginmcaaRows
import Derived.Test.YtidbihdnginmcaaTreeMemB
import Derived.Test.YtidbihdnginmcaaMemD
import Derived.Deep.QuietTactic
import Derived.Deep.DeepMust
import Derived.BigQuiet
import Derived.Deep.AppendLies
namespace Go.Proofs.Ytidbihdnginmcaa
open Go.RowKit Mem

theorem stk_int : (Try.prog.info? 3).map (fun i => (i.zero, i.size, i.bytes)) = some (some (.int .i64 0), 1, 8) := by kernel_rfl
theorem own_slice {w : World} {base : Nat} {e : TypeId} {v : Value} {n : Nat} {xs : List Value} (h : w.ownsRow base e 1 v n xs) : ∃ a c, v = .slice a n c ∧ At w a xs ∧ (a = none → c = 0) := by
  rcases h.2 with ⟨rfl, rfl⟩ | ⟨g, cap, cur, rfl, _⟩
  · have hx : xs = [] := List.eq_nil_of_length_eq_zero (by have := h.1; omega)
    subst hx
    exact ⟨none, 0, rfl, At.nil _ _, fun _ => rfl⟩
  · exact ⟨_, _, rfl, (own_row h).at, fun h => by cases h⟩

/-- a slice of ints that is owned, its block -/
def OwnI (w : World) (v : Value) (gs : Option Nat) (l : List Int) : Prop := w.ownsRow 0 3 1 v l.length (intsV l) ∧ v.ownBlock = gs
theorem OwnI.lt {w : World} {v : Value} {gs : Option Nat} {l : List Int} (h : OwnI w v gs l) : ∀ k, gs = some k → k < w.heap.size := fun k hk => (h.1.lt k (h.2.trans hk)).2
theorem OwnI.kept {w w' : World} {v : Value} {gs : Option Nat} {l : List Int} (h : OwnI w v gs l) (hk : ∀ k, gs = some k → w'.heap[k]? = w.heap[k]?) : OwnI w' v gs l := ⟨own_kept h.1 fun g hg => hk g (h.2.symm.trans hg), h.2⟩
theorem OwnI.nil (w : World) : OwnI w (.slice none 0 0) none [] := ⟨World.ownsRow_nil _ _ _ _, rfl⟩

theorem own_low {w : World} {B : Nat} {v : Value} {l : List Int} (h : w.ownsRow B 3 1 v l.length (intsV l)) : OwnI w v v.ownBlock l ∧ ∀ k, v.ownBlock = some k → B ≤ k := by
  refine ⟨⟨⟨h.1, ?_⟩, rfl⟩, fun k hk => (h.lt k hk).1⟩
  rcases h.2 with h' | ⟨g, cap, cur, h1, h2, h3⟩
  · exact .inl h'
  · exact .inr ⟨g, cap, cur, h1, Nat.zero_le _, h3⟩

/-- open elements behind the pointer to block sb, of the tree behind block tb, their row in block gs -/
def StkO (w : World) (sb tb : Nat) (gs : Option Nat) (l : List Int) : Prop :=
  ∃ v, w.heap[sb]? = some (.cells #[.pointer (some ⟨tb, 0, none⟩), v] 103 (0, 0)) ∧ OwnI w v gs l ∧ gs ≠ some sb
/-- the blocks that are written -/
def SB (sb : Nat) (gs : Option Nat) : Nat → Prop := fun k => k = sb ∨ gs = some k

section
variable {w w' : World} {sb tb : Nat} {gs : Option Nat} {l : List Int}
theorem StkO.lt (h : StkO w sb tb gs l) : ∀ k, SB sb gs k → k < w.heap.size := by
  obtain ⟨v, h1, h2, _⟩ := h
  rintro k (rfl | hk)
  · exact row_lt h1
  · exact h2.lt k hk
theorem StkO.kept {F : Nat → Prop} (h : StkO w sb tb gs l) (hk : Keeps F w w') (hF : ∀ k, SB sb gs k → ¬ F k) : StkO w' sb tb gs l := by
  have hlt := h.lt
  obtain ⟨v, h1, h2, h3⟩ := h
  exact ⟨v, (hk.block sb (hlt sb (.inl rfl)) (hF sb (.inl rfl))).trans h1, h2.kept fun k hk' => hk.block k (hlt k (.inr hk')) (hF k (.inr hk')), h3⟩
theorem StkO.below (h : StkO w sb tb gs l) (hb : Below w.heap.size w w') : StkO w' sb tb gs l := h.kept (F := fun _ => False) (Keeps.ofBelow hb) fun _ _ h => h
theorem StkO.cells (h : StkO w sb tb gs l) : ∃ a c, w.cell? ⟨sb, 0, none⟩ = some (.pointer (some ⟨tb, 0, none⟩)) ∧ w.cell? ⟨sb, 1, none⟩ = some (.slice a l.length c) ∧ At w a (intsV l) ∧ OwnI w (.slice a l.length c) gs l ∧ w.frozen? ⟨sb, 1, none⟩ = false ∧
    w.heap[sb]? = some (.cells #[.pointer (some ⟨tb, 0, none⟩), .slice a l.length c] 103 (0, 0)) ∧ (a = none → c = 0) ∧ gs ≠ some sb := by
  obtain ⟨v, h1, h2, h3⟩ := h
  obtain ⟨a, c, rfl, hat, hn⟩ := own_slice h2.1
  have hr : Row w sb [.pointer (some ⟨tb, 0, none⟩), .slice a l.length c] := ⟨_, _, _, _, h1, rfl, .inr rfl⟩
  exact ⟨a, c, hr.cell (j := 0) rfl, hr.cell (j := 1) rfl, hat, h2, hr.frozen (j := 1) (by simp), h1, hn, h3⟩
end
theorem stk_drewN (w : World) (n : Nat) : Below w.heap.size w (w.drewN n) := ⟨rfl, rfl, rfl, Nat.le_refl _, fun _ _ => rfl⟩

/-- the last place of a number; -1: nowhere -/
def rfind : List Int → Int → Int
  | [], _ => -1
  | x :: r, n => if 0 ≤ rfind r n then rfind r n + 1 else if x = n then 0 else -1
theorem rfind_spec : ∀ (l : List Int) (n : Int), -1 ≤ rfind l n ∧ rfind l n < l.length ∧ (∀ (k : Nat) (h : k < l.length), rfind l n < k → l[k] ≠ n) ∧ ∀ (k : Nat) (h : k < l.length), rfind l n = k → l[k] = n
  | [], n => by simp [rfind]
  | x :: r, n => by
    obtain ⟨h1, h2, h3, h4⟩ := rfind_spec r n
    unfold rfind
    by_cases hr : 0 ≤ rfind r n
    · rw [if_pos hr]
      refine ⟨by omega, by simp only [List.length_cons]; omega, ?_, ?_⟩
      · intro k hk hlt
        cases k with
        | zero => exact absurd hlt (by simp; omega)
        | succ k => exact h3 k (by simpa using hk) (by omega)
      · intro k hk he
        cases k with
        | zero => exact absurd he (by simp; omega)
        | succ k => exact h4 k (by simpa using hk) (by omega)
    · rw [if_neg hr]
      by_cases hx : x = n
      · rw [if_pos hx]
        refine ⟨by omega, by simp, ?_, ?_⟩
        · intro k hk hlt
          cases k with
          | zero => exact absurd hlt (by simp)
          | succ k => exact h3 k (by simpa using hk) (by omega)
        · intro k hk he
          cases k with
          | zero => exact hx
          | succ k => exact absurd he (by omega)
      · rw [if_neg hx]
        refine ⟨by omega, by simp only [List.length_cons]; omega, ?_, ?_⟩
        · intro k hk hlt
          cases k with
          | zero => exact hx
          | succ k => exact h3 k (by simpa using hk) (by omega)
        · intro k hk he
          exact absurd he (by omega)
theorem rfind_eq {l : List Int} {n i : Int} (h1 : -1 ≤ i) (h2 : i < l.length) (h3 : ∀ (k : Nat) (h : k < l.length), i < k → l[k] ≠ n) (h4 : ∀ (k : Nat) (h : k < l.length), i = k → l[k] = n) : rfind l n = i := by
  obtain ⟨q1, q2, q3, q4⟩ := rfind_spec l n
  rcases Int.lt_trichotomy (rfind l n) i with h | h | h
  · have hk : i = (i.toNat : Int) := by omega
    exact absurd (h4 i.toNat (by omega) hk) (q3 i.toNat (by omega) (by omega))
  · exact h
  · have hk : rfind l n = ((rfind l n).toNat : Int) := by omega
    exact absurd (q4 (rfind l n).toNat (by omega) hk) (h3 (rfind l n).toNat (by omega) (by omega))

section
variable (w : World) (sb tb : Nat) (gs : Option Nat) (l : List Int)
theorem stk_new : Calls Try.prog 25 #[.pointer (some ⟨tb, 0, none⟩)] w fun e w' => e = .returned (.pointer (some ⟨w.heap.size, 0, none⟩)) ∧ StkO w' w.heap.size tb none [] ∧ Below w.heap.size w w' ∧ w.heap.size < w'.heap.size := by
  go_enter Try.func25, Try.ntmps25
  go_wp2
  go_ret
  exact ⟨rfl, ⟨.slice none 0 0, heap_alloc_new _ _, OwnI.nil _, by simp⟩, (Below.refl _ _).alloc (Nat.le_refl _) _, by simp⟩

set_option maxRecDepth 100000 in
theorem stk_all (h : StkO w sb tb gs l) (hl : l.length ≤ 1048576) : Calls Try.prog 31 #[.pointer (some ⟨sb, 0, none⟩)] w fun e w' => ∃ v, e = .returned v ∧ w'.ownsRow w.heap.size 3 1 v l.length (intsV l) ∧ Below w.heap.size w w' := by
  have hlt := h.lt sb (.inl rfl)
  obtain ⟨a, c, c0, c1, hat, hown, _, _, hc0, _⟩ := h.cells
  have HK := Lib.hid (hat.below ((Below.refl _ _).alloc (Nat.le_refl _) (.cells #[] 3)))
  have HE : Hid ((w.alloc (.cells #[] 3)).ownsRow w.heap.size 3 1 (.slice (some ⟨w.heap.size, 0, none⟩) 0 0) 0 []) := World.ownsRow_lit w #[] 0 (Nat.le_refl _) (Nat.zero_le _) rfl
  have H3 := Lib.hid hc0
  obtain ⟨i0, hi, hz0, hz1, hz2⟩ := info_parts stk_int
  have b0 : 0 + l.length ≤ maxLen := by unfold maxLen; omega
  have b1 : (0 + l.length) * 8 ≤ 140737488355328 := by omega
  have HNL := Lib.hid (show (intsV l).length = l.length * 1 by rw [intsV_length, Nat.mul_one])
  have HZ : Hid (w.heap.size ≤ (w.alloc (.cells #[] 3)).heap.size) := by show _ ≤ _; simp
  clear h hat hown hc0
  go_enter Try.func31, Try.ntmps31
  go_wp2_with (at_builtin; refine wpList_append_slice _ rfl _ _ 32 rfl w.heap.size 3 i0 _ 1 8 Try.underlying32 hi hz0 hz1 hz2 rfl (by decide) _ 0 [] rfl HE.out a l.length c (intsV l) rfl HNL.out H3.out HK.out (intsV_one l) b0 b1 HZ.out ?_; intro v2 w2 hown2 hgr2; simp only [Nat.zero_add, List.nil_append] at hown2; have HO2 := Lib.hid hown2; have HG2 := Lib.hid hgr2; clear hown2 hgr2)
  go_ret
  exact ⟨_, rfl, HO2.out, ((Below.refl _ _).alloc (Nat.le_refl _) _).grown HG2.out HZ.out (fun b h => (HE.out.lt b h).1)⟩

theorem stk_top (h : StkO w sb tb gs l) (hl : l.length ≤ 1048576) : Calls Try.prog 33 #[.pointer (some ⟨sb, 0, none⟩)] w fun e w' => e = .returned (.int .i64 (l.getLast?.getD 0)) ∧ ∃ q, w' = w.drewN q := by
  obtain ⟨a, c, c0, c1, hat, hown, _⟩ := h.cells
  rcases (show l = [] ∨ ∃ r x, l = r ++ [x] from (List.eq_nil_or_concat l).imp id fun ⟨r, x, h⟩ => ⟨r, x, by rw [h, List.concat_eq_append]⟩) with rfl | ⟨r, x, rfl⟩
  · clear h hat hown
    go_enter Try.func33, Try.ntmps33
    go_wp2_with fail
    go_ret
    exact ⟨rfl, 0, rfl⟩
  · obtain ⟨bb, o, rfl⟩ := hat.some_of (by simp [intsV])
    have hx := hat.get (j := r.length) (u := .int .i64 x) (by rw [intsV_append]; simp [intsV])
    have hlen : (r ++ [x]).length = r.length + 1 := by simp
    have hlast : (r ++ [x]).getLast?.getD 0 = x := by simp
    rw [hlen] at c1 hl
    rw [hlast]
    generalize r.length = n at *
    have q0 : ((n : Int) + 1 == 0) = false := by rw [beq_eq_false_iff_ne]; omega
    clear h hat hown hlen hlast
    go_enter Try.func33, Try.ntmps33
    go_wp2_with fail
    go_quiet (fail)
    go_wp2
    go_ret
    exact ⟨rfl, _, rfl⟩

theorem stk_find (h : StkO w sb tb gs l) (n : Int) (hl : l.length ≤ 1048576) : Calls Try.prog 82 #[.pointer (some ⟨sb, 0, none⟩), .int .i64 n] w fun e w' => e = .returned (.int .i64 (rfind l n)) ∧ w = w' := by
  obtain ⟨a, c, c0, c1, hat, _⟩ := h.cells
  have HA := Lib.hid hat
  clear h hat
  go_enter Try.func82, Try.ntmps82
  go_wp2_with fail
  go_loop [5] (fun q => ∃ k : Nat, k ≤ l.length ∧ q = .int .i64 ((k : Int) - 1) ∧ ∀ (j : Nat) (h : j < l.length), k ≤ j → l[j] ≠ n) (fun q => (intOf q + 1).toNat)
  case atStart => exact ⟨l.length, Nat.le_refl _, rfl, fun j h h' => absurd h (by omega)⟩
  case round =>
    obtain ⟨k, hk, rfl, hno⟩ := hrel
    have HN := Lib.hid hno
    clear hno
    cases k with
    | zero =>
      go_wp2_with fail
      go_ret
      exact ⟨ret_int (rfind_eq (by omega) (by omega) (fun j h _ => HN.out j h (by omega)) (fun j h e => absurd e (by omega))).symm, rfl⟩
    | succ k =>
      obtain ⟨bb, o, rfl⟩ := HA.out.some_of (by intro h; have := congrArg List.length h; rw [intsV_length, List.length_nil] at this; omega)
      have hx := HA.out.get (intsV_get l k (by omega))
      have e1 : ((k + 1 : Nat) : Int) - 1 = (k : Int) := by omega
      rw [e1]
      by_cases hq : l[k] = n
      · have q0 : (l[k] == n) = true := by rw [beq_iff_eq]; exact hq
        have HQ := Lib.hid hq
        clear hq
        go_wp2_with fail
        go_ret
        exact ⟨ret_int (rfind_eq (by omega) (by omega) (fun j h hj => HN.out j h (by omega)) (fun j h e => (by obtain rfl : k = j := (by omega); exact HQ.out))).symm, rfl⟩
      · have q0 : (l[k] == n) = false := by rw [beq_eq_false_iff_ne]; exact hq
        have HQ := Lib.hid hq
        clear hq
        go_wp2_with fail
        go_round
        case rel => exact ⟨k, by omega, by go_num, fun j h hj => if h' : k < j then HN.out j h h' else (by obtain rfl : k = j := (by omega); exact HQ.out)⟩
        case measure => simp [intOf]
end
end Go.Proofs.Ytidbihdnginmcaa
