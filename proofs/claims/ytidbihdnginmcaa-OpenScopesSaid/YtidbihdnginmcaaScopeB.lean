/-
  The walk of OpenScopes: it returns true for every list of names, and every name.
-/
import Derived.Test.YtidbihdnginmcaaScopeA
import Derived.Deep.Cut
import Derived.Deep.CutRange
namespace Go.Proofs.Ytidbihdnginmcaa
open Go.RowKit Mem

theorem scope_lists (names : List ByteArray) (ask : ByteArray) (n : Nat) :
    (srch names ask 1 n = true → srch names ask 0 n = true) ∧ (srch names ask 2 n = true → srch names ask 0 n = true) ∧ (srch names ask 0 n = true → srch names ask 3 n = true) ∧ (srch names ask 3 n = true → 0 ≤ lastN names ask n) ∧ (0 ≤ lastN names ask n → nd names (lastN names ask n + 1) n = srch names ask 0 n) :=
  ⟨srch_mono names ask 1 0 (bounds_sub 1 0 (.inl ⟨rfl, rfl⟩)) n, srch_mono names ask 2 0 (bounds_sub 2 0 (.inr (.inl ⟨rfl, rfl⟩))) n, srch_mono names ask 0 3 (bounds_sub 0 3 (.inr (.inr ⟨rfl, rfl⟩))) n, srch_last names ask 3 n, nd_srch names ask n⟩
theorem lastN_step (names : List ByteArray) (ask : ByteArray) (k : Nat) (h : k < names.length) : lastN names ask (k + 1) = if (names[k].toList == ask.toList) = true then (k : Int) else lastN names ask k := by
  have hg : names.getD k ⟨#[]⟩ = names[k] := by simp [List.getD, List.getElem?_eq_getElem h]
  rw [lastN, hg]

set_option maxRecDepth 100000 in
set_option maxHeartbeats 8000000 in
theorem law_OpenScopes (lst : List ByteArray) (a : Option Addr) (c : Nat) (hc : lst.length ≤ c) (hcm : c ≤ maxLen) {w : World} (ha : At w a (strsV lst)) (ask : ByteArray) (_ : ask.size ≤ maxLen) :
    Calls Try.prog 5 #[.slice a lst.length c, .string ask] w fun e w' => e = .returned (.bool true) ∧ Below w.heap.size w w' := by
  have HA := Lib.hid ha
  unfold maxLen at hcm
  clear ha
  go_enter Try.func5, Try.ntmps5
  go_wp2_with fail
  refine (shown14_any _).mono ?_
  rintro e w1 ⟨rfl, hb1⟩
  have HNew := Lib.hid (New_ti 2000 (by decide) w w1 hb1)
  clear hb1
  go_wp2_with fail
  refine HNew.out.mono ?_
  rintro e w2 ⟨tb, g2, rfl, hT2, _⟩
  have HStk := Lib.hid (stack_si hT2)
  clear hT2 HNew
  go_wp2_with fail
  refine HStk.out.mono ?_
  rintro e w3 ⟨sb, rfl, hS3, _⟩
  have HS3 := Lib.hid hS3
  clear hS3 HStk
  go_upto_if 30 with fail
  go_cut [0] from 31 to 32 (fun s0 wx => ∃ (ns : List ByteArray) (c' : Nat), s0 = .slice a ns.length c' ∧ ns.length ≤ 500 ∧ Hid (At w a (strsV ns)) ∧ wx = w3)
  case first =>
    by_cases h5 : lst.length ≤ 500
    · go_wp2_with fail
      go_meet
      exact ⟨lst, c, rfl, h5, HA, rfl⟩
    · have HL : Hid ((lst.take 500).length = 500) := Lib.hid (by rw [List.length_take]; omega)
      have HT : Hid (At w a (strsV (lst.take 500))) := Lib.hid (by
        have h := HA.out
        rw [← List.take_append_drop 500 lst] at h
        rw [show strsV (lst.take 500 ++ lst.drop 500) = strsV (lst.take 500) ++ strsV (lst.drop 500) from List.map_append] at h
        exact h.left)
      go_wp2_with fail
      go_meet
      exact ⟨lst.take 500, c, by rw [HL.out], by rw [HL.out]; omega, HT, rfl⟩
  case rest =>
  clear HA
  obtain ⟨names, c', rfl, hl, HA, rfl⟩ := hcut
  clear hc hcm
  go_wp2_with fail
  go_loopw [8, 9] (fun x i wr => ∃ k : Nat, k ≤ names.length ∧ i = .int .i64 k ∧ x = .int .i64 (lastN names ask k) ∧ SI w 0 tb sb (fun _ => False) (flatT (names.take k)) (nums k) wr) (fun _ i _ => names.length - (intOf i).toNat)
  case atStart => exact ⟨0, Nat.zero_le _, rfl, rfl, HS3.out⟩
  case round =>
    obtain ⟨k, hk, rfl, rfl, hs⟩ := hrel
    have HS := Lib.hid hs
    clear hs
    by_cases hlt : k < names.length
    · have HAt := Lib.hid (HA.out.below HS.out.below)
      obtain ⟨b, o, rfl, _, e1⟩ := str_cell HAt.out hlt
      have HE := Lib.hid (Elem_si HS.out 0 names[k] [] 0 none 0 rfl (fun _ => rfl) (Nat.zero_le _) (At.nil _ _))
      rw [flat_add names k hlt (by omega)] at HE
      have HL := Lib.hid (lastN_step names ask k hlt)
      have HN := Lib.hid (nums_succ k)
      have HNl := nums_len k
      obtain ⟨x, hx⟩ : ∃ x, x = names[k] := ⟨_, rfl⟩
      rw [← hx] at e1 HE HL
      have HX := Lib.hid hx
      clear hx
      go_wp2_with fail
      refine HE.out.mono ?_
      rintro e w4 ⟨rfl, h4, hk4⟩
      have HP := Lib.hid (Push_si h4 ((k + 1 : Nat) : Int) (by rw [HNl]; omega))
      rw [← HN.out] at HP
      clear h4 HE
      have hcast : ((k + 1 : Nat) : Int) = (k : Int) + 1 := by omega
      rw [hcast] at HP ⊢
      go_wp2_with fail
      refine HP.out.mono ?_
      rintro e w5 ⟨rfl, h5, hk5⟩
      have HA5 := HA.out.below h5.below
      obtain ⟨b', o', he', _, f1⟩ := str_cell HA5 hlt
      cases he'
      rw [← HX.out] at f1
      have H5 := Lib.hid h5
      clear h5 HA5 HP hk4 hk5 e1
      cases hq : (x.toList == ask.toList)
      all_goals
        rw [hq] at HL
        go_wp2_with fail
        go_roundw
        case rel => exact ⟨k + 1, by omega, by go_num, by rw [HL.out]; rfl, H5.out⟩
        case measure => simp [intOf]; omega
    · obtain rfl : k = names.length := by omega
      rw [List.take_of_length_le (Nat.le_refl _)] at HS
      obtain ⟨q1, q2, q3, q4, q5⟩ := scope_lists names ask names.length
      have HU := Lib.hid (until_len names ask names.length (Nat.le_refl _))
      have HLt := lastN_lt names ask names.length
      have HH : Hid (∀ scope u, SI w 0 tb sb (fun _ => False) (flatT names) (nums names.length) u → Calls Try.prog 28 #[.pointer (some ⟨sb, 0, none⟩), .int .i64 scope, .slice (some ⟨u.heap.size, 0, none⟩) 1 1] (u.alloc (.cells #[.string ask] 9)) fun e w' => e = .returned (.bool (srch names ask scope names.length)) ∧ Below u.heap.size u w') := Lib.hid (fun scope u hu => by
        have := has1_si hu scope ask
        rw [hasF, has_srch names ask scope names.length (Nat.le_refl _)] at this
        exact this)
      have HND : Hid (∀ u, SI w 0 tb sb (fun _ => False) (flatT names) (nums names.length) u → Calls Try.prog 29 #[.pointer (some ⟨sb, 0, none⟩), .int .i64 (lastN names ask names.length + 1)] u fun e w' => e = .returned (.bool (nd names (lastN names ask names.length + 1) names.length)) ∧ Below u.heap.size u w') := Lib.hid (fun u hu => by
        have := HasNode_si hu (lastN names ask names.length + 1)
        rw [hasNodeF, node_nd names _ names.length (Nat.le_refl _)] at this
        exact this)
      have HNl := nums_len names.length
      have HUn := HH
      generalize hL : lastN names ask names.length = L at *
      have HN := Lib.hid (rfl : names.length = names.length)
      clear hL
      go_wp2_with fail
      refine (HH.out 0 _ HS.out).mono ?_
      rintro e w6 ⟨rfl, hb6⟩
      have H6 := Lib.hid (HS.out.world hb6)
      clear hb6
      go_wp2_with fail
      refine (HH.out 1 _ H6.out).mono ?_
      rintro e w7 ⟨rfl, hb7⟩
      have H7 := Lib.hid (H6.out.world hb7)
      clear hb7
      go_wp2_with fail
      refine (HH.out 2 _ H7.out).mono ?_
      rintro e w8 ⟨rfl, hb8⟩
      have H8 := Lib.hid (H7.out.world hb8)
      clear hb8
      go_wp2_with fail
      refine (HH.out 3 _ H8.out).mono ?_
      rintro e w9 ⟨rfl, hb9⟩
      have H9 := Lib.hid (H8.out.world hb9)
      clear hb9 H6 H7 H8 HS HH HUn
      have HUt := Lib.hid (fun u hu => until1_si (w := u) (w0 := w) (B := 0) (tb := tb) (sb := sb) (ex := fun _ => False) (T := flatT names) (l := nums names.length) hu ask)
      have HLM : Hid ((untilF (flatT names) [ask] (nums names.length).reverse).reverse.length ≤ names.length) := Lib.hid (by
        have := HU.out
        have h1 : max L 0 ≤ (names.length : Int) := by omega
        omega)
      generalize (untilF (flatT names) [ask] (nums names.length).reverse).reverse = U at *
      generalize srch names ask 0 names.length = A at *
      generalize srch names ask 1 names.length = B1 at *
      generalize srch names ask 2 names.length = B2 at *
      generalize srch names ask 3 names.length = C at *
      generalize nd names (L + 1) names.length = N at *
      have hm : -1 ≤ L ∧ L < 500 := by omega
      have hml : names.length ≤ 9223372036854775807 := by omega
      cases A <;> cases B1 <;> cases B2 <;> cases C <;> by_cases h0 : 0 ≤ L
      all_goals first
        | exact absurd (q1 rfl) (by decide)
        | exact absurd (q2 rfl) (by decide)
        | exact absurd (q3 rfl) (by decide)
        | exact absurd (q4 rfl) h0
        | (have hN := q5 h0
           subst hN
           have d1 : decide (L < 0) = false := decide_eq_false (by omega)
           have d2 : decide (0 ≤ L) = true := decide_eq_true (by omega)
           clear q1 q2 q3 q4 q5
           go_wp2_with (go_at_call 29; go_must (refine (HND.out _ H9.out).mono ?_; rintro e w10 ⟨rfl, hb10⟩; have H10 := Lib.hid (H9.out.world hb10); clear hb10))
           refine (HUt.out _ H10.out).mono ?_
           rintro e w11 ⟨rfl, h11, _⟩
           have HAll := Lib.hid (All_si h11)
           have H11 := Lib.hid h11
           clear h11
           go_wp2_with (go_at_call 31; go_must (refine HAll.out.mono ?_; rintro e w12 ⟨v, rfl, ho, hb12⟩; obtain ⟨va, vc, rfl, hvc, hvm, _, _⟩ := own_at ho; have HB12 := Lib.hid hb12; clear hb12 ho))
           go_ret
           exact ⟨ret_bool (by have := HU.out; first | (rw [beq_iff_eq]; omega) | (simp; omega)), belowCall H11.out.below HB12.out⟩)
        | (have d1 : decide (L < 0) = true := decide_eq_true (by omega)
           have d2 : decide (0 ≤ L) = false := decide_eq_false (by omega)
           clear q1 q2 q3 q4 q5
           go_wp2_with fail
           refine (HUt.out _ H9.out).mono ?_
           rintro e w11 ⟨rfl, h11, _⟩
           have HAll := Lib.hid (All_si h11)
           have H11 := Lib.hid h11
           clear h11
           go_wp2_with (go_at_call 31; go_must (refine HAll.out.mono ?_; rintro e w12 ⟨v, rfl, ho, hb12⟩; obtain ⟨va, vc, rfl, hvc, hvm, _, _⟩ := own_at ho; have HB12 := Lib.hid hb12; clear hb12 ho))
           go_ret
           exact ⟨ret_bool (by have := HU.out; first | (rw [beq_iff_eq]; omega) | (simp; omega)), belowCall H11.out.below HB12.out⟩)
end Go.Proofs.Ytidbihdnginmcaa
