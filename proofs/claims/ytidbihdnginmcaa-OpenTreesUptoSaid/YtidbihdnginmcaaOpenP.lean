/-
  Contract: colanderlaw14.shown: it returns true; the world behind has new blocks alone.
-/
import Derived.Test.YtidbihdnginmcaaOpenN
namespace Go.Proofs.Ytidbihdnginmcaa
open Go.RowKit Mem

/-- is n below top, reckoned in so many steps -/
def belowC : Nat → TreeD → Int → Int → Option Bool
  | 0, _, _, _ => none
  | k + 1, T, n, top => if n = top then some true else if 0 < n then belowC k T (parentF T n) top else some false
theorem belowC_eq : ∀ (k : Nat) (T : TreeD) (n top : Int) (b : Bool), belowC k T n top = some b → belowF T n top = b
  | 0, _, _, _, _, h => by cases h
  | k + 1, T, n, top, b, h => by
    unfold belowC at h
    split at h
    · rename_i e
      cases h
      rw [e]
      exact belowF_true .here
    · rename_i hne
      split at h
      · rename_i h0
        rw [belowF_congr (reach_up h0 hne)]
        exact belowC_eq k T _ top b h
      · rename_i h0
        cases h
        rw [belowF_low (by omega)]
        simpa using hne
theorem putE_yes {T : TreeD} {a b n : Int} (k : Nat) (h1 : holdsF T a = true) (h2 : isF T n = true) (h3 : (b != n) = true) (h4 : decide (0 ≤ placeF T a b) = true) (h5 : belowC k T a n = some false) : putE T a b n = (putF T a b n, 0) := by
  rw [putE, if_pos]
  simp only [putOk, h1, h2, h3, h4, belowC_eq k T a n false h5]
  rfl
theorem putE_below {T : TreeD} {a b n : Int} (k : Nat) (h5 : belowC k T a n = some true) : putE T a b n = (T, 47) := by
  rw [putE, if_neg]
  simp only [putOk, belowC_eq k T a n true h5]
  simp

def aS : ByteArray := (⟨#[97]⟩ : ByteArray)
def bS14 : ByteArray := (⟨#[98]⟩ : ByteArray)
def cS : ByteArray := (⟨#[99]⟩ : ByteArray)
def R0 : TreeD := ⟨[rootN], 9, noFar⟩
def R3 : TreeD := ⟨[rootN, elemN 0 aS [], elemN 0 bS14 [], elemN 0 cS []], 9, noFar⟩
def R6 : TreeD := putF (putF (putF R3 0 0 1) 1 0 2) 1 2 3
def R8 : TreeD := (textE (textE R6 1 2 (⟨#[120]⟩ : ByteArray)).1 1 2 (⟨#[121]⟩ : ByteArray)).1

theorem r_mk0 : mkF R0 (elemN 0 aS []) = (⟨[rootN, elemN 0 aS []], 9, noFar⟩, 1, 0) := rfl
theorem r_mk1 : mkF ⟨[rootN, elemN 0 aS []], 9, noFar⟩ (elemN 0 bS14 []) = (⟨[rootN, elemN 0 aS [], elemN 0 bS14 []], 9, noFar⟩, 2, 0) := rfl
theorem r_mk2 : mkF ⟨[rootN, elemN 0 aS [], elemN 0 bS14 []], 9, noFar⟩ (elemN 0 cS []) = (R3, 3, 0) := rfl
theorem r_put0 : putE R3 0 0 1 = (putF R3 0 0 1, 0) := putE_yes 5 rfl rfl rfl rfl rfl
theorem r_put1 : putE (putF R3 0 0 1) 1 0 2 = (putF (putF R3 0 0 1) 1 0 2, 0) := putE_yes 5 rfl rfl rfl rfl rfl
theorem r_put2 : putE (putF (putF R3 0 0 1) 1 0 2) 1 2 3 = (R6, 0) := putE_yes 5 rfl rfl rfl rfl rfl
theorem r_text1 : (textE R6 1 2 (⟨#[120]⟩ : ByteArray)).2 = 0 := rfl
theorem r_text2 : (textE (textE R6 1 2 (⟨#[120]⟩ : ByteArray)).1 1 2 (⟨#[121]⟩ : ByteArray)).2 = 0 := rfl
theorem r_kids : kidsQ R8 1 = [3, 4, 2] := rfl
theorem r_put3 : putE R8 2 0 1 = (R8, 47) := putE_below 5 rfl
theorem r_len : (R8.nodes.length : Int) - 1 = 4 := rfl
theorem r_par1 : (if isF R8 2 then parentF R8 2 else -1) = 1 := rfl
theorem r_par2 : (if isF R8 1 then parentF R8 1 else -1) = 0 := rfl

theorem root_wf (most : Int) : WF ⟨[rootN], most, noFar⟩ := by
  refine ⟨Nat.one_pos, rfl, ?_, ?_, ?_, ?_, ⟨fun _ => 0, ?_⟩, ?_⟩ <;> intro i hi <;> simp at hi <;> subst hi
  · simp [parentF, rootN]
  · intro k hk; simp [kidsF, rootN] at hk
  · intro h; simp [parentF, rootN] at h
  · simp [kidsF, rootN]
  · intro h; simp [parentF, rootN] at h
  · intro h; simp [kidsF, rootN] at h

theorem New_ti (most : Int) (hm : most ≤ 5000) (w0 w : World) (hb : Below w0.heap.size w0 w) : Calls Try.prog 10 #[.int .i64 most] w fun e w' =>
    ∃ tb g, e = .returned (.pointer (some ⟨tb, 0, none⟩)) ∧ TI w0 0 tb ⟨[rootN], most, noFar⟩ g w' ∧ w.heap.size ≤ tb ∧ w.heap.size ≤ g ∧ Below w.heap.size w w' := by
  refine (New_any most w).mono ?_
  rintro e w' ⟨tb, g, he, hT, h1, h2, hb1⟩
  have hs := hb.size
  refine ⟨tb, g, he, ⟨hT, root_wf most, belowCall hb hb1, by omega, by omega, by simp, hm, ?_, ?_⟩, h1, h2, hb1⟩
  · intro d hd
    simp only [List.mem_singleton] at hd
    subst hd
    exact Nat.zero_le _
  · intro d hd
    simp only [List.mem_singleton] at hd
    subst hd
    exact Nat.le_refl _

set_option maxRecDepth 100000 in
set_option maxHeartbeats 4000000 in
theorem shown14_any (w : World) : Calls Try.prog 9 #[] w fun e w' => e = .returned (.bool true) ∧ Below w.heap.size w w' := by
  go_enter Try.func9, Try.ntmps9
  go_wp2_with fail
  refine (New_ti 9 (by decide) w w (Below.refl _ _)).mono ?_
  rintro e w0 ⟨tb, g0, rfl, h0, _⟩
  have H0 := Lib.hid (Elem_ti h0 0 aS [] 0 none 0 rfl (fun _ => rfl) (Nat.zero_le _) (At.nil _ _))
  rw [show (⟨[rootN], 9, noFar⟩ : TreeD) = R0 from rfl, r_mk0] at H0
  clear h0
  go_wp2_with fail
  refine H0.out.mono ?_
  rintro e w1 ⟨rfl, _, g1, h1⟩
  have H1 := Lib.hid (Elem_ti h1 0 bS14 [] 0 none 0 rfl (fun _ => rfl) (Nat.zero_le _) (At.nil _ _))
  rw [r_mk1] at H1
  clear h1 H0
  go_wp2_with fail
  refine H1.out.mono ?_
  rintro e w2 ⟨rfl, _, g2, h2⟩
  have H2 := Lib.hid (Elem_ti h2 0 cS [] 0 none 0 rfl (fun _ => rfl) (Nat.zero_le _) (At.nil _ _))
  rw [r_mk2] at H2
  clear h2 H1
  go_wp2_with fail
  refine H2.out.mono ?_
  rintro e w3 ⟨rfl, _, g3, h3⟩
  have H3 := Lib.hid (Put_ti h3 0 0 1)
  rw [r_put0] at H3
  clear h3 H2
  go_wp2_with fail
  refine H3.out.mono ?_
  rintro e w4 ⟨rfl, _, h4⟩
  have H4 := Lib.hid (Put_ti h4 1 0 2)
  rw [r_put1] at H4
  clear h4 H3
  go_wp2_with fail
  refine H4.out.mono ?_
  rintro e w5 ⟨rfl, _, h5⟩
  have H5 := Lib.hid (Put_ti h5 1 2 3)
  rw [r_put2] at H5
  clear h5 H4
  go_wp2_with fail
  refine H5.out.mono ?_
  rintro e w6 ⟨rfl, _, h6⟩
  have H6 := Lib.hid (Text_ti (B' := 5) h6 1 2 (⟨#[120]⟩ : ByteArray) (by decide) (by decide))
  rw [r_text1] at H6
  clear h6 H5
  go_wp2_with fail
  refine H6.out.mono ?_
  rintro e w7 ⟨rfl, _, g7, h7⟩
  have H7 := Lib.hid (Text_ti (B' := 9) h7 1 2 (⟨#[121]⟩ : ByteArray) (by decide) (by decide))
  rw [r_text2, show (textE (textE R6 1 2 (⟨#[120]⟩ : ByteArray)).1 1 2 (⟨#[121]⟩ : ByteArray)).1 = R8 from rfl] at H7
  clear h7 H6
  go_wp2_with fail
  refine H7.out.mono ?_
  rintro e w8 ⟨rfl, _, g8, h8⟩
  have H8 := Lib.hid (kids_any R8 tb g8 w8 1 h8.tree (fun i hi => by
    have := kids_short h8.wf i hi
    rw [kidsF_of R8 i hi] at this
    have := h8.len
    omega))
  have HH := Lib.hid h8
  rw [r_kids] at H8
  clear h8 H7
  go_wp2_with fail
  refine H8.out.mono ?_
  rintro e w9 ⟨v, rfl, ho, hb9⟩
  obtain ⟨a9, c9, rfl, hc9, hm9, _, hat9⟩ := own_at ho
  have HI := Lib.hid (HH.out.world hb9)
  have H9 := Lib.hid (put_no R8 tb g8 w9 2 0 1 HI.out.wf HI.out.tree (by
    have := r_put3
    cases hh : putOk R8 2 0 1
    · rfl
    · rw [putE, hh] at this
      cases this))
  obtain ⟨b, o, rfl, q0⟩ := hat9 0 _ rfl
  obtain ⟨b', o', he', q1⟩ := hat9 1 _ rfl
  cases he'
  obtain ⟨b', o', he', q2⟩ := hat9 2 _ rfl
  cases he'
  rw [Nat.add_zero] at q0
  simp only [List.length_cons, List.length_nil] at hc9
  unfold maxLen at hm9
  have HL := Lib.hid (len_any R8 tb g8 w9 HI.out.tree)
  rw [r_len] at HL
  have HP1 := Lib.hid (parent_any R8 tb g8 w9 2 HI.out.tree)
  rw [r_par1] at HP1
  have HP2 := Lib.hid (parent_any R8 tb g8 w9 1 HI.out.tree)
  rw [r_par2] at HP2
  clear ho hat9 hb9 H8 HH
  go_wp2_with (first | (go_at_call 46; go_must (refine H9.out.mono ?_; rintro e w1 ⟨rfl, rfl⟩)) | (go_at_call 20; go_must (refine HL.out.mono ?_; rintro e w1 ⟨rfl, rfl⟩)) | (go_at_call_of 21 (Value.int .i64 2); go_must (refine HP1.out.mono ?_; rintro e w1 ⟨rfl, rfl⟩)) | (go_at_call 21; go_must (refine HP2.out.mono ?_; rintro e w1 ⟨rfl, rfl⟩)))
  go_ret
  exact ⟨rfl, HI.out.below⟩
end Go.Proofs.Ytidbihdnginmcaa
