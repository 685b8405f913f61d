/-
  Contract: (*open.Tree).Put: a node is put somewhere, or refused.
-/
import Derived.Test.YtidbihdnginmcaaOpenJ
namespace Go.Proofs.Ytidbihdnginmcaa
open Go.RowKit Mem

noncomputable def putE (T : TreeD) (a b n : Int) : TreeD × Int := if putOk T a b n then (putF T a b n, 0) else (T, 47)


theorem put_no (T : TreeD) (tb g : Nat) (w : World) (a b n : Int) (hw : WF T) (h : TreeO w tb g T) (hno : putOk T a b n = false) :
    Calls Try.prog 46 #[.pointer (some ⟨tb, 0, none⟩), .int .i64 a, .int .i64 b, .int .i64 n] w fun e w' => e = .returned (.int .i64 47) ∧ w = w' := by
  have H1 := Lib.hid (holds_any T tb g w a h)
  cases h1 : holdsF T a
  · rw [h1] at H1
    clear h hno
    go_enter Try.func46, Try.ntmps46
    go_wp2_with (first | (go_at_call 57; go_must (refine H1.out.mono ?_; rintro e w1 ⟨rfl, rfl⟩)) | (go_at_call 56; go_must (refine H2.out.mono ?_; rintro e w1 ⟨rfl, rfl⟩)) | (go_at_call 59; go_must (refine H4.out.mono ?_; rintro e w1 ⟨rfl, rfl⟩)) | (go_at_call 58; go_must (refine H5.out.mono ?_; rintro e w1 ⟨rfl, rfl⟩)))
    go_ret
    exact ⟨rfl, rfl⟩
  have H2 := Lib.hid (is_any T tb g w n h)
  rw [h1] at H1
  cases h2 : isF T n
  · rw [h2] at H2
    clear h hno
    go_enter Try.func46, Try.ntmps46
    go_wp2_with (first | (go_at_call 57; go_must (refine H1.out.mono ?_; rintro e w1 ⟨rfl, rfl⟩)) | (go_at_call 56; go_must (refine H2.out.mono ?_; rintro e w1 ⟨rfl, rfl⟩)) | (go_at_call 59; go_must (refine H4.out.mono ?_; rintro e w1 ⟨rfl, rfl⟩)) | (go_at_call 58; go_must (refine H5.out.mono ?_; rintro e w1 ⟨rfl, rfl⟩)))
    go_ret
    exact ⟨rfl, rfl⟩
  rw [h2] at H2
  cases h3 : (b == n)
  rotate_left
  · clear h hno
    go_enter Try.func46, Try.ntmps46
    go_wp2_with (first | (go_at_call 57; go_must (refine H1.out.mono ?_; rintro e w1 ⟨rfl, rfl⟩)) | (go_at_call 56; go_must (refine H2.out.mono ?_; rintro e w1 ⟨rfl, rfl⟩)) | (go_at_call 59; go_must (refine H4.out.mono ?_; rintro e w1 ⟨rfl, rfl⟩)) | (go_at_call 58; go_must (refine H5.out.mono ?_; rintro e w1 ⟨rfl, rfl⟩)))
    go_ret
    exact ⟨rfl, rfl⟩
  have ha := holdsF_lt hw.pos h1
  obtain ⟨a, rfl⟩ := Int.eq_ofNat_of_zero_le ha.1
  have H4 := Lib.hid (place_any T tb g w a b (by omega) h)
  cases h4 : decide (placeF T a b < 0)
  rotate_left
  · clear h hno
    go_enter Try.func46, Try.ntmps46
    go_wp2_with (first | (go_at_call 57; go_must (refine H1.out.mono ?_; rintro e w1 ⟨rfl, rfl⟩)) | (go_at_call 56; go_must (refine H2.out.mono ?_; rintro e w1 ⟨rfl, rfl⟩)) | (go_at_call 59; go_must (refine H4.out.mono ?_; rintro e w1 ⟨rfl, rfl⟩)) | (go_at_call 58; go_must (refine H5.out.mono ?_; rintro e w1 ⟨rfl, rfl⟩)))
    go_ret
    exact ⟨rfl, rfl⟩
  have H5 := Lib.hid (below_any T tb g w a n (by omega) hw h)
  cases h5 : belowF T a n
  · exfalso
    have : putOk T a b n = true := by
      simp only [putOk, Bool.and_eq_true, h1, h2, h5, Bool.not_false, decide_eq_true_eq, true_and, and_true, bne, h3]
      have := of_decide_eq_false h4
      omega
    rw [this] at hno
    cases hno
  · rw [h5] at H5
    clear h hno
    go_enter Try.func46, Try.ntmps46
    go_wp2_with (first | (go_at_call 57; go_must (refine H1.out.mono ?_; rintro e w1 ⟨rfl, rfl⟩)) | (go_at_call 56; go_must (refine H2.out.mono ?_; rintro e w1 ⟨rfl, rfl⟩)) | (go_at_call 59; go_must (refine H4.out.mono ?_; rintro e w1 ⟨rfl, rfl⟩)) | (go_at_call 58; go_must (refine H5.out.mono ?_; rintro e w1 ⟨rfl, rfl⟩)))
    go_ret
    exact ⟨rfl, rfl⟩

theorem put_yes (T : TreeD) (tb g : Nat) (w : World) (a b n : Int) (hw : WF T) (hlen : T.nodes.length ≤ 2097152) (h : TreeO w tb g T) (hok : putOk T a b n = true) :
    Calls Try.prog 46 #[.pointer (some ⟨tb, 0, none⟩), .int .i64 a, .int .i64 b, .int .i64 n] w fun e w' => e = .returned (.int .i64 0) ∧ TreeO w' tb g (putF T a b n) ∧ Keeps (Two tb g) w w' := by
  have hok' := hok
  simp only [putOk, Bool.and_eq_true, Bool.not_eq_true', decide_eq_true_eq] at hok'
  obtain ⟨⟨⟨⟨h1, h2⟩, h3⟩, h4⟩, h5⟩ := hok'
  have h3' : (b == n) = false := by simpa [bne] using h3
  have hbn : b ≠ n := by simpa using h3
  have ha := holdsF_lt hw.pos h1
  have hn := isF_lt h2
  obtain ⟨a, rfl⟩ := Int.eq_ofNat_of_zero_le ha.1
  obtain ⟨n, rfl⟩ := Int.eq_ofNat_of_zero_le (by omega : 0 ≤ n)
  have ha' : a < T.nodes.length := by omega
  have hn' : n < T.nodes.length := by omega
  have H1 := Lib.hid (holds_any T tb g w a h)
  have H2 := Lib.hid (is_any T tb g w n h)
  have H4 := Lib.hid (place_any T tb g w a b ha' h)
  have H5 := Lib.hid (below_any T tb g w a n (by omega) hw h)
  rw [h1] at H1
  rw [h2] at H2
  rw [h5] at H5
  have H6 := Lib.hid (take_yes T tb g w n (by omega) hn' hw hlen h)
  have hk := kids_short (takeF_wf hw hn' (by omega)) a (by rw [takeF_len]; exact ha')
  rw [takeF_len] at hk
  obtain ⟨j, hj, hjk⟩ := placeF_nat (takeF T n) a b (place_take hw hn' ha' hbn h4)
  have HF : Hid (insertF (takeF T n) a j n = putF T a b n) := Lib.hid (by rw [putF, hj]; rfl)
  have HJ := Lib.hid hj
  have h4' : ¬ (placeF T a b < 0) := by omega
  clear h hok h3 h4 hbn
  go_enter Try.func46, Try.ntmps46
  go_wp2_with (first | (go_at_call 57; go_must (refine H1.out.mono ?_; rintro e w1 ⟨rfl, rfl⟩)) | (go_at_call 56; go_must (refine H2.out.mono ?_; rintro e w1 ⟨rfl, rfl⟩)) | (go_at_call 59; go_must (refine H4.out.mono ?_; rintro e w1 ⟨rfl, rfl⟩)) | (go_at_call 58; go_must (refine H5.out.mono ?_; rintro e w1 ⟨rfl, rfl⟩)))
  refine H6.out.mono ?_
  rintro e w2 ⟨rfl, hT2, hK2⟩
  have HT2 := Lib.hid hT2
  have HK2 := Lib.hid hK2
  have H7 := Lib.hid (place_any (takeF T n) tb g w2 a b (by rw [takeF_len]; exact ha') hT2)
  rw [HJ.out] at H7
  have H8 := Lib.hid (insert_any (takeF T n) tb g w2 a j n (by rw [takeF_len]; exact ha') (by rw [takeF_len]; exact hn') hjk (by omega) hT2)
  rw [HF.out] at H8
  clear hT2 hK2 H4 HJ
  go_wp2_with (first | (go_at_call 59; go_must (refine H7.out.mono ?_; rintro e w1 ⟨rfl, rfl⟩)))
  refine H8.out.mono ?_
  rintro e w3 ⟨rfl, hT3, hK3⟩
  have HT3 := Lib.hid hT3
  have HK3 := Lib.hid (HK2.out.trans hK3)
  clear hT3 hK3
  go_wp2_with fail
  go_ret
  exact ⟨rfl, HT3.out, HK3.out⟩

theorem Put_any (T : TreeD) (tb g : Nat) (w : World) (a b n : Int) (hw : WF T) (hlen : T.nodes.length ≤ 2097152) (h : TreeO w tb g T) :
    Calls Try.prog 46 #[.pointer (some ⟨tb, 0, none⟩), .int .i64 a, .int .i64 b, .int .i64 n] w fun e w' => e = .returned (.int .i64 (putE T a b n).2) ∧ TreeO w' tb g (putE T a b n).1 ∧ Keeps (Two tb g) w w' := by
  cases hok : putOk T a b n
  · have he : putE T a b n = (T, 47) := by rw [putE, hok]; rfl
    rw [he]
    exact (put_no T tb g w a b n hw h hok).mono fun e w' ⟨h1, h2⟩ => by
      subst h2
      exact ⟨h1, h, Keeps.refl _ _⟩
  · have he : putE T a b n = (putF T a b n, 0) := by rw [putE, hok]; rfl
    rw [he]
    exact put_yes T tb g w a b n hw hlen h hok
theorem putE_wf {T : TreeD} (hw : WF T) (a b n : Int) : WF (putE T a b n).1 ∧ (putE T a b n).1.nodes.length = T.nodes.length ∧ (putE T a b n).1.most = T.most := by
  cases hok : putOk T a b n
  · have he : putE T a b n = (T, 47) := by rw [putE, hok]; rfl
    rw [he]
    exact ⟨hw, rfl, rfl⟩
  · have he : putE T a b n = (putF T a b n, 0) := by rw [putE, hok]; rfl
    rw [he]
    exact ⟨putF_wf hw hok, putF_len _ _ _ _, putF_most _ _ _ _⟩
end Go.Proofs.Ytidbihdnginmcaa
