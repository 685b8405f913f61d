/-
  Contract: (*open.Tree).Move: all kids are put elsewhere, one after the other; or refused.
-/
import Derived.Test.YtidbihdnginmcaaOpenN
namespace Go.Proofs.Ytidbihdnginmcaa
open Go.RowKit Mem

noncomputable def moveF (T : TreeD) (b : Int) (l : List Int) : TreeD := l.foldl (fun T k => (putE T b 0 k).1) T
noncomputable def moveE (T : TreeD) (a b : Int) : TreeD × Int := if holdsF T a && holdsF T b && !belowF T b a then (moveF T b (kidsF T a), 0) else (T, 47)
theorem moveF_next (T : TreeD) (b : Int) (l : List Int) (k : Nat) (h : k < l.length) : moveF T b (l.take (k + 1)) = (putE (moveF T b (l.take k)) b 0 l[k]).1 := by
  have : l.take (k + 1) = l.take k ++ [l[k]] := by rw [List.take_add_one]; simp [h]
  rw [this, moveF, List.foldl_append]
  rfl


theorem move_no (T : TreeD) (tb g : Nat) (w : World) (a b : Int) (hw : WF T) (h : TreeO w tb g T) (hno : (holdsF T a && holdsF T b && !belowF T b a) = false) :
    Calls Try.prog 15 #[.pointer (some ⟨tb, 0, none⟩), .int .i64 a, .int .i64 b] w fun e w' => e = .returned (.int .i64 47) ∧ w = w' := by
  have H1 := Lib.hid (holds_any T tb g w a h)
  have H2 := Lib.hid (holds_any T tb g w b h)
  cases h1 : holdsF T a
  · by_cases hab : a = b
    · subst hab
      rw [h1] at H1
      clear h hno
      go_enter Try.func15, Try.ntmps15
      go_wp2_with (first | (go_at_call 57; go_must (refine H1.out.mono ?_; rintro e w1 ⟨rfl, rfl⟩)))
      go_ret
      exact ⟨rfl, rfl⟩
    · rw [h1] at H1
      clear h hno
      go_enter Try.func15, Try.ntmps15
      go_wp2_with (first | (go_at_call 57; go_must (refine H1.out.mono ?_; rintro e w1 ⟨rfl, rfl⟩)))
      go_ret
      exact ⟨rfl, rfl⟩
  rw [h1] at H1
  cases h2 : holdsF T b
  · have hab : a ≠ b := by
      intro e
      rw [e, h2] at h1
      cases h1
    rw [h2] at H2
    clear h hno
    go_enter Try.func15, Try.ntmps15
    go_wp2_with (first | (go_at_call_of 57 (Value.int .i64 b); go_must (refine H2.out.mono ?_; rintro e w1 ⟨rfl, rfl⟩)) | (go_at_call 57; go_must (refine H1.out.mono ?_; rintro e w1 ⟨rfl, rfl⟩)) | (go_at_call 58; go_must (refine H3.out.mono ?_; rintro e w1 ⟨rfl, rfl⟩)))
    go_ret
    exact ⟨rfl, rfl⟩
  rw [h2] at H2
  have hb := holdsF_lt hw.pos h2
  have H3 := Lib.hid (below_any T tb g w b a (by omega) hw h)
  cases h3 : belowF T b a
  · rw [h1, h2, h3] at hno
    cases hno
  · rw [h3] at H3
    clear h hno hb
    by_cases hab : a = b
    · subst hab
      go_enter Try.func15, Try.ntmps15
      go_wp2_with (first | (go_at_call 57; go_must (refine H1.out.mono ?_; rintro e w1 ⟨rfl, rfl⟩)) | (go_at_call 58; go_must (refine H3.out.mono ?_; rintro e w1 ⟨rfl, rfl⟩)))
      go_ret
      exact ⟨rfl, rfl⟩
    · go_enter Try.func15, Try.ntmps15
      go_wp2_with (first | (go_at_call_of 57 (Value.int .i64 b); go_must (refine H2.out.mono ?_; rintro e w1 ⟨rfl, rfl⟩)) | (go_at_call 57; go_must (refine H1.out.mono ?_; rintro e w1 ⟨rfl, rfl⟩)) | (go_at_call 58; go_must (refine H3.out.mono ?_; rintro e w1 ⟨rfl, rfl⟩)))
      go_ret
      exact ⟨rfl, rfl⟩

set_option maxRecDepth 100000 in
set_option maxHeartbeats 4000000 in
theorem move_yes {w0 w : World} {B tb g : Nat} {T : TreeD} (h : TI w0 B tb T g w) (a b : Int) (hok : (holdsF T a && holdsF T b && !belowF T b a) = true) :
    Calls Try.prog 15 #[.pointer (some ⟨tb, 0, none⟩), .int .i64 a, .int .i64 b] w fun e w' => e = .returned (.int .i64 0) ∧ Keeps (Two tb g) w w' ∧ TI w0 B tb (moveF T b (kidsF T a)) g w' := by
  simp only [Bool.and_eq_true, Bool.not_eq_true'] at hok
  obtain ⟨⟨h1, h2⟩, h3⟩ := hok
  have H1 := Lib.hid (holds_any T tb g w a h.tree)
  have H2 := Lib.hid (holds_any T tb g w b h.tree)
  have hb := holdsF_lt h.wf.pos h2
  have ha := holdsF_lt h.wf.pos h1
  have H3 := Lib.hid (below_any T tb g w b a (by omega) h.wf h.tree)
  have H4 := Lib.hid (kids_any T tb g w a h.tree (fun i hi => by
    have := kids_short h.wf i hi
    rw [kidsF_of T i hi] at this
    have := h.len
    omega))
  have hq : kidsQ T a = kidsF T a := by rw [kidsQ, if_pos ha]
  rw [hq] at H4
  have hab : a ≠ b := by
    intro e
    rw [e] at h3
    rw [belowF_true .here] at h3
    cases h3
  rw [h1] at H1
  rw [h2] at H2
  rw [h3] at H3
  obtain ⟨l, hl⟩ : ∃ l, l = kidsF T a := ⟨_, rfl⟩
  rw [← hl] at H4 ⊢
  have hlen : l.length ≤ 1000000 := by
    obtain ⟨i, rfl⟩ := Int.eq_ofNat_of_zero_le ha.1
    rw [hl]
    have := kids_short h.wf i (by omega)
    have := h.len
    omega
  have HH := Lib.hid h
  have hlt := h.tree.lt
  clear h hl hq hb ha
  go_enter Try.func15, Try.ntmps15
  go_wp2_with (first | (go_at_call_of 57 (Value.int .i64 b); go_must (refine H2.out.mono ?_; rintro e w1 ⟨rfl, rfl⟩)) | (go_at_call 57; go_must (refine H1.out.mono ?_; rintro e w1 ⟨rfl, rfl⟩)) | (go_at_call 58; go_must (refine H3.out.mono ?_; rintro e w1 ⟨rfl, rfl⟩)))
  refine H4.out.mono ?_
  rintro e w2 ⟨v, rfl, ho, hb2⟩
  obtain ⟨a2, c2, rfl, k1, k2, k3, hat2⟩ := own_atF (F := Two tb g) ho (fun k hk => by rcases hk with rfl | rfl <;> omega)
  have HT2 := Lib.hid (HH.out.world hb2)
  have HK2 := Lib.hid (Keeps.ofBelow (F := Two tb g) hb2)
  have HAT := Lib.hid hat2
  unfold maxLen at k2
  clear ho hb2 hat2 HH H1 H2 H3 H4
  go_wp2_with fail
  go_loopw [29] (fun i wr => ∃ k : Nat, k ≤ l.length ∧ i = .int .i64 k ∧ TI w0 B tb (moveF T b (l.take k)) g wr ∧ Keeps (Two tb g) w2 wr) (fun i _ => l.length - (intOf i).toNat)
  case atStart => exact ⟨0, Nat.zero_le _, rfl, HT2.out, Keeps.refl _ _⟩
  case round =>
    obtain ⟨k, hk, rfl, hT, hK⟩ := hrel
    have HT := Lib.hid hT
    have HK := Lib.hid hK
    by_cases hlt2 : k < l.length
    · obtain ⟨b', o', rfl, e1⟩ := (HAT.out.kept hK).at _ _ (intsV_get l k hlt2)
      have HP := Lib.hid (Put_ti hT b 0 l[k])
      rw [← moveF_next T b l k hlt2] at HP
      clear hT hK k3
      go_wp2_with fail
      refine HP.out.mono ?_
      rintro e w3 ⟨rfl, hK3, hT3⟩
      have HT3 := Lib.hid hT3
      have HK3 := Lib.hid (HK.out.trans hK3)
      clear hT3 hK3
      go_wp2_with fail
      go_roundw
      case rel => exact ⟨k + 1, by omega, by go_num, HT3.out, HK3.out⟩
      case measure => simp [intOf]; omega
    · have he : l.take k = l := List.take_of_length_le (by omega)
      rw [he] at HT
      clear hT hK k3
      go_wp2_with fail
      go_ret
      exact ⟨rfl, HK2.out.trans HK.out, HT.out⟩

theorem Move_ti {w0 w : World} {B tb g : Nat} {T : TreeD} (h : TI w0 B tb T g w) (a b : Int) :
    Calls Try.prog 15 #[.pointer (some ⟨tb, 0, none⟩), .int .i64 a, .int .i64 b] w fun e w' => e = .returned (.int .i64 (moveE T a b).2) ∧ Keeps (Two tb g) w w' ∧ TI w0 B tb (moveE T a b).1 g w' := by
  cases hok : (holdsF T a && holdsF T b && !belowF T b a)
  · have he : moveE T a b = (T, 47) := by rw [moveE, hok]; rfl
    rw [he]
    exact (move_no T tb g w a b h.wf h.tree hok).mono fun e w' ⟨h1, h2⟩ => by
      subst h2
      exact ⟨h1, Keeps.refl _ _, h⟩
  · have he : moveE T a b = (moveF T b (kidsF T a), 0) := by rw [moveE, hok]; rfl
    rw [he]
    exact move_yes h a b hok
end Go.Proofs.Ytidbihdnginmcaa
