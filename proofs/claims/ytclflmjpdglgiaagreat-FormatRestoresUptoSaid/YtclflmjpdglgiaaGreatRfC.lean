import Derived.Test.YtclflmjpdglgiaaGreatRfA
import Derived.Test.YtclflmjpdglgiaaGreatOpenWZ
import Derived.Test.YtclflmjpdglgiaaGreatRfB
import Derived.Test.YtclflmjpdglgiaaGreatOpenIK
import Derived.Test.YtclflmjpdglgiaaGreatOpenLV
import Derived.StillTailTactics
/-
  Contract: (*colanderref14.Tree).under: the bounded way up tells the same; the world stays.
-/
namespace Go.Proofs.YtclflmjpdglgiaaGreat
open Go.RowKit Mem

section
variable (T : TreeD) (rb gn gk : Nat) (w : World)
theorem runder_low (n top : Int) (hn : n ≤ 0) (h : RefO w rb gn gk T) : Calls Tryz.prog 118 #[.pointer (some ⟨rb, 0, none⟩), .int .i64 n, .int .i64 top] w fun e w' => e = .returned (.bool (belowF T n top)) ∧ w = w' := by
  obtain ⟨capn, capk, p1, p2, _, _, c0, _, _, _⟩ := h.head
  have HP := Lib.hid (belowF_low (T := T) (top := top) hn)
  unfold maxLen at p2
  clear h
  cases he : (n == top)
  all_goals
    go_enter Tryz.func118, Tryz.ntmps118
    go_wp2_with fail
    go_loop [1, 7] (fun u i => u = .int .i64 n ∧ i = .int .i64 0) (fun _ _ => 0)
    case atStart => exact ⟨rfl, rfl⟩
    case round =>
      obtain ⟨rfl, rfl⟩ := hrel
      go_wp2_with fail
      go_ret
      exact ⟨ret_bool (by rw [HP.out, he]), rfl⟩

set_option maxHeartbeats 1000000 in
theorem runder_any (n : Nat) (top : Int) (hn1 : 1 ≤ n) (hn : n < T.nodes.length) (hw : WF T) (h : RefO w rb gn gk T) : Calls Tryz.prog 118 #[.pointer (some ⟨rb, 0, none⟩), .int .i64 n, .int .i64 top] w fun e w' => e = .returned (.bool (belowF T n top)) ∧ w = w' := by
  obtain ⟨capn, capk, p1, p2, _, _, c0, _, _, _⟩ := h.head
  obtain ⟨_, _, _, _, h'⟩ := h
  obtain ⟨r, hr⟩ := hw.rank
  have HR := Lib.hid hr
  have HW := Lib.hid hw
  have HRef := Lib.hid h'
  unfold maxLen at p2
  clear h' hw hr
  go_enter Tryz.func118, Tryz.ntmps118
  go_wp2_with fail
  go_loop [1, 7] (fun x i => ∃ (u : Int) (k : Nat), u < T.nodes.length ∧ x = .int .i64 u ∧ i = .int .i64 k ∧ k = passed T n u ∧ (0 < u → Reach T u n) ∧ belowF T n top = belowF T u top) (fun x _ => upM r (intOf x))
  case atStart => exact ⟨n, 0, by omega, rfl, rfl, (passed_zero T n).symm, fun _ => .here, rfl⟩
  case round =>
    obtain ⟨u, k, hu, rfl, rfl, hk, hre, hv⟩ := hrel
    have hple : k ≤ T.nodes.length - 1 := by rw [hk]; exact passed_le T n u HW.out.pos
    have hk1 : (k : Int) ≤ (T.nodes.length : Int) := by omega
    have HV := Lib.hid hv
    have HK := Lib.hid hk
    have HRe := Lib.hid hre
    clear hv hk hre
    by_cases he : u = top
    · have he' : (u == top) = true := by simpa using he
      have HE : Hid (belowF T u top = true) := by show _ = _; rw [he]; exact belowF_true .here
      clear he
      go_wp2_with fail
      go_ret
      exact ⟨ret_bool (by rw [HV.out, HE.out]), rfl⟩
    · have he' : (u == top) = false := by simpa using he
      by_cases h0 : 0 < u
      · have HE : Hid (belowF T u top = belowF T (parentF T u) top) := belowF_congr (reach_up h0 he)
        clear he
        obtain ⟨m, rfl⟩ := Int.eq_ofNat_of_zero_le (by omega : 0 ≤ u)
        have hm : m < T.nodes.length := by omega
        obtain ⟨aa, ac, _, _, _, _, hc, _⟩ := HRef.out.node hm
        have d5 := hc 5 _ rfl
        have HP : Hid (parentF T m = T.nodes[m].parent) := parentF_of T m hm
        have hpar := HW.out.par m hm
        rw [HP.out] at hpar
        have hps := passed_step HW.out (n := n) (by omega) hm (HRe.out h0)
        rw [HP.out] at hps
        have HPS := Lib.hid hps
        have hle : ¬ ((m : Int) ≤ 0) := by omega
        clear hc hps
        go_wp2_with fail
        go_round
        case rel => exact ⟨T.nodes[m].parent, k + 1, hpar.2, rfl, by go_num, by rw [HPS.out, HK.out], fun _ => by rw [← HP.out]; exact reach_more (HRe.out h0) h0, by rw [HV.out, HE.out, HP.out]⟩
        case measure =>
          have hlt2 := HR.out m hm
          rw [HP.out] at hlt2
          exact upM_lt r m T.nodes[m].parent h0 hlt2
      · have HE : Hid (belowF T u top = false) := by show _ = _; rw [belowF_low (by omega)]; exact he'
        clear he
        go_wp2_with fail
        go_ret
        exact ⟨ret_bool (by rw [HV.out, HE.out]), rfl⟩
end
end Go.Proofs.YtclflmjpdglgiaaGreat

/-
  Contract: (*colanderref14.Tree).Put: a node is put somewhere, or refused.
-/
namespace Go.Proofs.YtclflmjpdglgiaaGreat
open Go.RowKit Mem

theorem runder_all (T : TreeD) (rb gn gk : Nat) (w : World) (n : Nat) (top : Int) (hn : n < T.nodes.length) (hw : WF T) (h : RefO w rb gn gk T) : Calls Tryz.prog 118 #[.pointer (some ⟨rb, 0, none⟩), .int .i64 n, .int .i64 top] w fun e w' => e = .returned (.bool (belowF T n top)) ∧ w = w' := by
  by_cases h0 : n = 0
  · subst h0
    exact runder_low T rb gn gk w ((0 : Nat) : Int) top (by omega) h
  · exact runder_any T rb gn gk w n top (by omega) hn hw h
theorem rat_all (T : TreeD) (rb gn gk : Nat) (w : World) (parent : Nat) (before : Int) (hp : parent < T.nodes.length) (hw : WF T) (h : RefO w rb gn gk T) :
    Calls Tryz.prog 98 #[.pointer (some ⟨rb, 0, none⟩), .int .i64 parent, .int .i64 before] w fun e w' => e = .returned (.int .i64 (placeF T parent before)) ∧ w = w' :=
  rat_any T rb gn gk w parent before hp (fun k hk => (hw.kid parent hp k hk).1) h
theorem isF_not {T : TreeD} {n : Int} (h : isF T n = false) : n < 1 ∨ (1 ≤ n ∧ (T.nodes.length : Int) ≤ n) := by
  simp only [isF, Bool.and_eq_false_iff, decide_eq_false_iff_not] at h
  omega


set_option maxHeartbeats 2000000 in
theorem rput_no (T : TreeD) (rb gn gk : Nat) (w : World) (a b n : Int) (hw : WF T) (h : RefO w rb gn gk T) (hno : putOk T a b n = false) :
    Calls Tryz.prog 94 #[.pointer (some ⟨rb, 0, none⟩), .int .i64 a, .int .i64 b, .int .i64 n] w fun e w' => e = .returned (.int .i64 47) ∧ w = w' := by
  have H1 := Lib.hid (relem_any T rb gn gk w a h)
  obtain ⟨capn, capk, p1, p2, _, _, c0, _, _, _⟩ := h.head
  unfold maxLen at p2
  have hpos := hw.pos
  cases h0 : (a == 0) <;> cases h1 : elemF T a
  · rw [h1] at H1
    clear h hno
    go_enter Tryz.func94, Tryz.ntmps94
    go_wp2_with (first | (go_at_call 97; go_must (refine H1.out.mono ?_; rintro e w1 ⟨rfl, rfl⟩)) | (go_at_call 98; go_must (refine H4.out.mono ?_; rintro e w1 ⟨rfl, rfl⟩)) | (go_at_call 118; go_must (refine H5.out.mono ?_; rintro e w1 ⟨rfl, rfl⟩)))
    go_ret
    exact ⟨rfl, rfl⟩
  all_goals
    have hh : holdsF T a = true := by rw [holdsF, h0, h1]; rfl
    rw [h1] at H1
    cases h2 : isF T n
    · rcases isF_not h2 with hn | ⟨hn, hn'⟩
      · clear h hno
        go_enter Tryz.func94, Tryz.ntmps94
        go_wp2_with (first | (go_at_call 97; go_must (refine H1.out.mono ?_; rintro e w1 ⟨rfl, rfl⟩)) | (go_at_call 98; go_must (refine H4.out.mono ?_; rintro e w1 ⟨rfl, rfl⟩)) | (go_at_call 118; go_must (refine H5.out.mono ?_; rintro e w1 ⟨rfl, rfl⟩)))
        go_ret
        exact ⟨rfl, rfl⟩
      · have hn3 : ¬ (n < 1) := by omega
        clear h hno
        go_enter Tryz.func94, Tryz.ntmps94
        go_wp2_with (first | (go_at_call 97; go_must (refine H1.out.mono ?_; rintro e w1 ⟨rfl, rfl⟩)) | (go_at_call 98; go_must (refine H4.out.mono ?_; rintro e w1 ⟨rfl, rfl⟩)) | (go_at_call 118; go_must (refine H5.out.mono ?_; rintro e w1 ⟨rfl, rfl⟩)))
        go_ret
        exact ⟨rfl, rfl⟩
    have hn := isF_lt h2
    have hn1 : ¬ (n < 1) := by omega
    have hn2 : ¬ ((T.nodes.length : Int) ≤ n) := by omega
    cases h3 : (b == n)
    rotate_left
    · clear h hno
      go_enter Tryz.func94, Tryz.ntmps94
      go_wp2_with (first | (go_at_call 97; go_must (refine H1.out.mono ?_; rintro e w1 ⟨rfl, rfl⟩)) | (go_at_call 98; go_must (refine H4.out.mono ?_; rintro e w1 ⟨rfl, rfl⟩)) | (go_at_call 118; go_must (refine H5.out.mono ?_; rintro e w1 ⟨rfl, rfl⟩)))
      go_ret
      exact ⟨rfl, rfl⟩
    have ha := holdsF_lt hpos hh
    obtain ⟨a, rfl⟩ := Int.eq_ofNat_of_zero_le ha.1
    have H4 := Lib.hid (rat_all T rb gn gk w a b (by omega) hw h)
    cases h4 : decide (placeF T a b < 0)
    rotate_left
    · clear h hno
      go_enter Tryz.func94, Tryz.ntmps94
      go_wp2_with (first | (go_at_call 97; go_must (refine H1.out.mono ?_; rintro e w1 ⟨rfl, rfl⟩)) | (go_at_call 98; go_must (refine H4.out.mono ?_; rintro e w1 ⟨rfl, rfl⟩)) | (go_at_call 118; go_must (refine H5.out.mono ?_; rintro e w1 ⟨rfl, rfl⟩)))
      go_ret
      exact ⟨rfl, rfl⟩
    have H5 := Lib.hid (runder_all T rb gn gk w a n (by omega) hw h)
    cases h5 : belowF T a n
    · exfalso
      have : putOk T a b n = true := by
        simp only [putOk, Bool.and_eq_true, hh, h2, h5, Bool.not_false, decide_eq_true_eq, true_and, and_true, bne, h3]
        have := of_decide_eq_false h4
        omega
      rw [this] at hno
      cases hno
    · rw [h5] at H5
      clear h hno
      go_enter Tryz.func94, Tryz.ntmps94
      go_wp2_with (first | (go_at_call 97; go_must (refine H1.out.mono ?_; rintro e w1 ⟨rfl, rfl⟩)) | (go_at_call 98; go_must (refine H4.out.mono ?_; rintro e w1 ⟨rfl, rfl⟩)) | (go_at_call 118; go_must (refine H5.out.mono ?_; rintro e w1 ⟨rfl, rfl⟩)))
      go_ret
      exact ⟨rfl, rfl⟩

set_option maxHeartbeats 2000000 in
theorem rput_yes (T : TreeD) (rb gn gk : Nat) (w : World) (a b n : Int) (hw : WF T) (hlen : T.nodes.length ≤ 2097152) (h : RefO w rb gn gk T) (hok : putOk T a b n = true) :
    Calls Tryz.prog 94 #[.pointer (some ⟨rb, 0, none⟩), .int .i64 a, .int .i64 b, .int .i64 n] w fun e w' => e = .returned (.int .i64 0) ∧ RefO w' rb gn gk (putF T a b n) ∧ Keeps (Three rb gn gk) w w' := by
  have hok' := hok
  simp only [putOk, Bool.and_eq_true, Bool.not_eq_true', decide_eq_true_eq] at hok'
  obtain ⟨⟨⟨⟨h1, h2⟩, h3⟩, h4⟩, h5⟩ := hok'
  have h3' : (b == n) = false := by simpa [bne] using h3
  have hbn : b ≠ n := by simpa using h3
  have ha := holdsF_lt hw.pos h1
  have hn := isF_lt h2
  obtain ⟨a, rfl⟩ := Int.eq_ofNat_of_zero_le ha.1
  obtain ⟨n, rfl⟩ := Int.eq_ofNat_of_zero_le (by omega : 0 ≤ n)
  have ha' : a < T.nodes.length := by omega
  have hn' : n < T.nodes.length := by omega
  have H1 := Lib.hid (relem_any T rb gn gk w a h)
  obtain ⟨capn, capk, p1, p2, _, _, c0, _, _, _⟩ := h.head
  unfold maxLen at p2
  have hn1 : ¬ ((n : Int) < 1) := by omega
  have hn2 : ¬ ((T.nodes.length : Int) ≤ (n : Int)) := by omega
  have H4 := Lib.hid (rat_all T rb gn gk w a b ha' hw h)
  have H5 := Lib.hid (runder_all T rb gn gk w a n ha' hw h)
  rw [h5] at H5
  have hTk : takeE T n = (takeF T n, 0) := by rw [takeE, h2]; rfl
  have H6 := rTake_any T rb gn gk w n hw hlen h
  rw [hTk] at H6
  have H6 := Lib.hid H6
  have hw2 := takeF_wf hw hn' (by omega)
  have hk := kids_short hw2 a (by rw [takeF_len]; exact ha')
  rw [takeF_len] at hk
  obtain ⟨j, hj, hjk⟩ := placeF_nat (takeF T n) a b (place_take hw hn' ha' hbn h4)
  have HF : Hid (insertF (takeF T n) a j n = putF T a b n) := Lib.hid (by rw [putF, hj]; rfl)
  have HJ := Lib.hid hj
  have h4' : ¬ (placeF T a b < 0) := by omega
  have h10 : ((a : Int) == 0 || elemF T a) = true := h1
  have HW2 := Lib.hid hw2
  clear h hok h3 h4 hbn h1 h2 hTk hj hw2
  cases h0 : ((a : Int) == 0) <;> cases h1 : elemF T a
  · rw [h0, h1] at h10; cases h10
  all_goals
    rw [h1] at H1
    clear h10
    go_enter Tryz.func94, Tryz.ntmps94
    go_wp2_with (first | (go_at_call 97; go_must (refine H1.out.mono ?_; rintro e w1 ⟨rfl, rfl⟩)) | (go_at_call 98; go_must (refine H4.out.mono ?_; rintro e w1 ⟨rfl, rfl⟩)) | (go_at_call 118; go_must (refine H5.out.mono ?_; rintro e w1 ⟨rfl, rfl⟩)))
    refine H6.out.mono ?_
    rintro e w2 ⟨rfl, hT2, hK2⟩
    have HT2 := Lib.hid hT2
    have HK2 := Lib.hid hK2
    have H7 := Lib.hid (rat_all (takeF T n) rb gn gk w2 a b (by rw [takeF_len]; exact ha') HW2.out hT2)
    rw [HJ.out] at H7
    have H8 := Lib.hid (rlay_any (takeF T n) rb gn gk w2 a j n (by rw [takeF_len]; exact hn') (by rw [takeF_len]; exact ha') hjk (by omega) hT2)
    rw [HF.out] at H8
    clear hT2 hK2 H4 HJ
    go_wp2_with (first | (go_at_call 98; go_must (refine H7.out.mono ?_; rintro e w1 ⟨rfl, rfl⟩)))
    refine H8.out.mono ?_
    rintro e w3 ⟨rfl, hT3, hK3⟩
    have HT3 := Lib.hid hT3
    have HK3 := Lib.hid (HK2.out.trans hK3)
    clear hT3 hK3
    go_wp2_with fail
    go_ret
    exact ⟨rfl, HT3.out, HK3.out⟩

theorem rPut_any (T : TreeD) (rb gn gk : Nat) (w : World) (a b n : Int) (hw : WF T) (hlen : T.nodes.length ≤ 2097152) (h : RefO w rb gn gk T) :
    Calls Tryz.prog 94 #[.pointer (some ⟨rb, 0, none⟩), .int .i64 a, .int .i64 b, .int .i64 n] w fun e w' => e = .returned (.int .i64 (putE T a b n).2) ∧ RefO w' rb gn gk (putE T a b n).1 ∧ Keeps (Three rb gn gk) w w' := by
  cases hok : putOk T a b n
  · have he : putE T a b n = (T, 47) := by rw [putE, hok]; rfl
    rw [he]
    exact (rput_no T rb gn gk w a b n hw h hok).mono fun e w' ⟨h1, h2⟩ => by
      subst h2
      exact ⟨h1, h, Keeps.refl _ _⟩
  · have he : putE T a b n = (putF T a b n, 0) := by rw [putE, hok]; rfl
    rw [he]
    exact rput_yes T rb gn gk w a b n hw hlen h hok
end Go.Proofs.YtclflmjpdglgiaaGreat

/-
  Contract: (*colanderref14.Tree).Text: a text is put somewhere, or made longer, or refused.
-/
namespace Go.Proofs.YtclflmjpdglgiaaGreat
open Go.RowKit Mem

theorem RefO.layT {w : World} {rb gn gk : Nat} {T : TreeD} (h : RefO w rb gn gk T) {i : Nat} (hi : i < T.nodes.length) (s : ByteArray) : RefO (w.setCell ⟨gn, i * 6 + 4, none⟩ (.string (T.nodes[i].text ++ s))) rb gn gk (modN T i (addText s)) := by
  obtain ⟨capn, capk, Ns, Ks, h⟩ := h
  rw [modN_of T i _ hi]
  obtain ⟨Ns', h'⟩ := h.writeN hi 4 (by omega) (.string (T.nodes[i].text ++ s)) (addText s T.nodes[i]) rfl (fun cs hc => by
    obtain ⟨aa, ac, h1, h2, h3, h4, h5⟩ := hc
    exact ⟨aa, ac, by rw [h1]; rfl, h2, h3, h4, h5⟩)
  exact ⟨_, _, _, _, h'⟩
theorem RefO.nodec {w : World} {rb gn gk : Nat} {T : TreeD} (h : RefO w rb gn gk T) {i : Nat} (hi : i < T.nodes.length) : w.cell? ⟨gn, i * 6, none⟩ = some (.bool T.nodes[i].elem) ∧ w.cell? ⟨gn, i * 6 + 4, none⟩ = some (.string T.nodes[i].text) ∧ w.frozen? ⟨gn, i * 6 + 4, none⟩ = false := by
  obtain ⟨_, _, _, _, h⟩ := h
  obtain ⟨aa, ac, _, _, _, _, hc, hf⟩ := h.node hi
  exact ⟨hc 0 _ rfl, hc 4 _ rfl, hf _⟩


theorem rtext_no (T : TreeD) (rb gn gk : Nat) (w : World) (a b : Int) (s : ByteArray) (hw : WF T) (h : RefO w rb gn gk T) (hno : (holdsF T a && decide (0 ≤ placeF T a b)) = false) :
    Calls Tryz.prog 59 #[.pointer (some ⟨rb, 0, none⟩), .int .i64 a, .int .i64 b, .string s] w fun e w' => e = .returned (.int .i64 47) ∧ w = w' := by
  have H1 := Lib.hid (relem_any T rb gn gk w a h)
  have hpos := hw.pos
  cases h0 : (a == 0) <;> cases h1 : elemF T a
  · rw [h1] at H1
    clear h hno
    go_enter Tryz.func59, Tryz.ntmps59
    go_wp2_with (first | (go_at_call 97; go_must (refine H1.out.mono ?_; rintro e w1 ⟨rfl, rfl⟩)) | (go_at_call 98; go_must (refine H4.out.mono ?_; rintro e w1 ⟨rfl, rfl⟩)))
    go_ret
    exact ⟨rfl, rfl⟩
  all_goals
    have hh : holdsF T a = true := by rw [holdsF, h0, h1]; rfl
    rw [h1] at H1
    have ha := holdsF_lt hpos hh
    obtain ⟨a, rfl⟩ := Int.eq_ofNat_of_zero_le ha.1
    have H4 := Lib.hid (rat_all T rb gn gk w a b (by omega) hw h)
    rw [hh] at hno
    have h4 : placeF T a b < 0 := by simpa using hno
    clear h hno hh
    go_enter Tryz.func59, Tryz.ntmps59
    go_wp2_with (first | (go_at_call 97; go_must (refine H1.out.mono ?_; rintro e w1 ⟨rfl, rfl⟩)) | (go_at_call 98; go_must (refine H4.out.mono ?_; rintro e w1 ⟨rfl, rfl⟩)))
    go_ret
    exact ⟨rfl, rfl⟩

theorem rtext_empty (T : TreeD) (rb gn gk : Nat) (w : World) (a : Nat) (b : Int) (s : ByteArray) (ha : a < T.nodes.length) (hw : WF T) (h : RefO w rb gn gk T) (hh : holdsF T a = true) (h4 : 0 ≤ placeF T a b) (hs : s.size = 0) :
    Calls Tryz.prog 59 #[.pointer (some ⟨rb, 0, none⟩), .int .i64 a, .int .i64 b, .string s] w fun e w' => e = .returned (.int .i64 0) ∧ w = w' := by
  have H1 := Lib.hid (relem_any T rb gn gk w a h)
  have H4 := Lib.hid (rat_all T rb gn gk w a b ha hw h)
  have h4' : ¬ (placeF T a b < 0) := by omega
  obtain rfl : s = ⟨#[]⟩ := ByteArray.ext (Array.eq_empty_of_size_eq_zero hs)
  have hh : ((a : Int) == 0 || elemF T a) = true := hh
  clear h h4
  cases h0 : ((a : Int) == 0) <;> cases h1 : elemF T a
  · rw [h0, h1] at hh; cases hh
  all_goals
    rw [h1] at H1
    clear hh
    go_enter Tryz.func59, Tryz.ntmps59
    go_wp2_with (first | (go_at_call 97; go_must (refine H1.out.mono ?_; rintro e w1 ⟨rfl, rfl⟩)) | (go_at_call 98; go_must (refine H4.out.mono ?_; rintro e w1 ⟨rfl, rfl⟩)))
    go_ret
    exact ⟨rfl, rfl⟩

set_option maxRecDepth 100000 in
set_option maxHeartbeats 4000000 in
theorem rtext_longer (T : TreeD) (rb gn gk : Nat) (w : World) (a j k : Nat) (b : Int) (s : ByteArray) (ha : a < T.nodes.length) (hk1 : k < T.nodes.length) (hw : WF T) (h : RefO w rb gn gk T) (hh : holdsF T a = true) (h4 : placeF T a b = (j : Int) + 1) (hs : s.size ≠ 0)
    (l : List Int) (hl : l = kidsF T a) (hj : j < l.length) (hlk : l[j] = k) (hkl : l.length ≤ 2097152) (hel : T.nodes[k].elem = false) (hts : T.nodes[k].text.size + s.size ≤ 9223372036854775807) :
    Calls Tryz.prog 59 #[.pointer (some ⟨rb, 0, none⟩), .int .i64 a, .int .i64 b, .string s] w fun e w' => e = .returned (.int .i64 0) ∧ RefO w' rb gn gk (modN T k (addText s)) ∧ Keeps (Three rb gn gk) w w' := by
  have H1 := Lib.hid (relem_any T rb gn gk w a h)
  have H4 := Lib.hid (rat_all T rb gn gk w a b ha hw h)
  rw [h4] at H4
  have h4' : ¬ ((j : Int) + 1 < 0) := by omega
  have h4'' : (0 : Int) < (j : Int) + 1 := by omega
  have hw1 : IntKind.i64.wrap ((j : Int) + 1 - 1) = (j : Int) := by rw [IntKind.wrap_i64]; omega
  have hw2 : IntKind.i64.wrap (j : Int) = (j : Int) := by rw [IntKind.wrap_i64]; omega
  have hs' := size_toList_ne hs
  obtain ⟨capn, capk, p1, p2, p3, p4, c0, c1, _, l1, l2, l3⟩ := h.head
  obtain ⟨ka, kc, hk4, hk5, _, hkat, d, _⟩ := h.kidc ha
  rw [← hl] at d hkat hk4
  obtain ⟨kb, ko, rfl, e1⟩ := hkat.at _ _ (intsV_get l j hj)
  rw [hlk] at e1
  obtain ⟨d0, d4, f4⟩ := h.nodec hk1
  rw [hel] at d0
  have HT := Lib.hid h
  unfold maxLen at p2 p4 hk5
  have hts' : ¬ (9223372036854775807 < T.nodes[k].text.size + s.size) := by omega
  have hh : ((a : Int) == 0 || elemF T a) = true := hh
  clear h h4 hs hkat hl hlk hw
  cases h0 : ((a : Int) == 0) <;> cases h1 : elemF T a
  · rw [h0, h1] at hh; cases hh
  all_goals
    rw [h1] at H1
    clear hh
    go_enter Tryz.func59, Tryz.ntmps59
    go_wp2_with (first | (go_at_call 97; go_must (refine H1.out.mono ?_; rintro e w1 ⟨rfl, rfl⟩)) | (go_at_call 98; go_must (refine H4.out.mono ?_; rintro e w1 ⟨rfl, rfl⟩)))
    refine wp_region_calm (by kernel_rfl) (by kernel_rfl) ?_
    repeat
      with_reducible refine wpQuiet_step (fun K hK => ?_)
      first
        | (with_reducible apply calm_skip
           · rfl
           simp only [Act.put, List.setIfInBounds_toArray, List.set_cons_zero, List.set_cons_succ]
           refine hK _ ?_
           clear hK K)
        | (with_reducible apply calm_run
           · rfl
           · intro wq hC
             have zc0 := cell_later hC.out c0
             have zc1 := cell_later hC.out c1
             have zd := cell_later hC.out d
             have ze1 := cell_later hC.out e1
             have zd0 := cell_later hC.out d0
             have zd4 := cell_later hC.out d4
             unfold Oper.quietAt
             go_simp
             first | done | with_reducible rfl | rfl
           simp only [Act.put, List.setIfInBounds_toArray, List.set_cons_zero, List.set_cons_succ]
           refine hK _ ?_
           clear hK K)
    with_reducible refine wpQuiet_nil ?_
    intro wq HQ
    have zc0 := cell_later HQ.out c0
    have zc1 := cell_later HQ.out c1
    have zd := cell_later HQ.out d
    have ze1 := cell_later HQ.out e1
    have zd0 := cell_later HQ.out d0
    have zd4 := cell_later HQ.out d4
    go_wp2_with fail
    have hbd := HQ.out.trans (((Below.refl wq.heap.size wq).drew).mono (by have := HQ.out.size; omega))
    have y0 := cell_later hbd c0
    have y1 := cell_later hbd c1
    have y2 := cell_later hbd d
    have y3 := cell_later hbd e1
    have y4 := cell_later hbd d4
    have y5 := (hbd.frozen (p := ⟨gn, k * 6 + 4, none⟩) l2).trans f4
    have HP := Lib.hid ((HT.out.below hbd).layT hk1 s)
    have HK := Lib.hid ((Keeps.ofBelow (F := Three rb gn gk) hbd).set (p := ⟨gn, k * 6 + 4, none⟩) (.inl (.inr (.inl rfl))) (.string (T.nodes[k].text ++ s)))
    clear hbd
    go_still_tail 37, (by kernel_rfl)
    change wpList _ _ _ _ _ wq.drew
    go_wp2_with fail
    go_ret
    exact ⟨rfl, HP.out, HK.out⟩
end Go.Proofs.YtclflmjpdglgiaaGreat

/-
  Contract: (*colanderref14.Tree).Text, the whole.
-/
namespace Go.Proofs.YtclflmjpdglgiaaGreat
open Go.RowKit Mem



set_option maxRecDepth 100000 in
set_option maxHeartbeats 4000000 in
theorem rtext_full (T : TreeD) (rb gn gk : Nat) (w : World) (a i : Nat) (b : Int) (s : ByteArray) (ha : a < T.nodes.length) (hn : T.nodes.length ≤ 1048576) (hw : WF T) (h : RefO w rb gn gk T) (hh : holdsF T a = true) (h4 : placeF T a b = i) (hs : s.size ≠ 0)
    (hprev : 0 < i → ∃ (l : List Int) (k : Nat) (hk : k < T.nodes.length) (hj : i - 1 < l.length), l = kidsF T a ∧ l[i - 1] = k ∧ l.length ≤ 2097152 ∧ T.nodes[k].elem = true)
    (hm : ¬ ((T.nodes.length : Int) - 1 < T.most)) :
    Calls Tryz.prog 59 #[.pointer (some ⟨rb, 0, none⟩), .int .i64 a, .int .i64 b, .string s] w fun e w' => ∃ gn' gk', Keeps (Three rb gn gk) w w' ∧ (gn' = gn ∨ w.heap.size ≤ gn') ∧ (gk' = gk ∨ w.heap.size ≤ gk') ∧ e = .returned (.int .i64 43) ∧ RefO w' rb gn' gk' T := by
  have he : mkF T ⟨false, 0, ⟨#[]⟩, [], s, -1, []⟩ = (T, 0, 43) := by rw [mkF, if_neg hm]
  have hh : ((a : Int) == 0 || elemF T a) = true := hh
  have H1 := Lib.hid (relem_any T rb gn gk w a h)
  have H4 := Lib.hid (rat_all T rb gn gk w a b ha hw h)
  have hs' := size_toList_ne hs
  have HM : Hid (∀ u, Below w.heap.size w u → _) := Lib.hid (fun u (hu : Below w.heap.size w u) => radd_any T rb gn gk u false 0 ⟨#[]⟩ s [] 0 rfl none 0 (fun _ => rfl) (by decide) (by decide) hn (h.below hu) (AtF.of_new (At.nil _ _) (fun b o s h => by cases h)))
  rw [he] at HM
  rw [h4] at H4
  cases h0 : ((a : Int) == 0) <;> cases h1 : elemF T a
  · rw [h0, h1] at hh; cases hh
  all_goals
    rw [h1] at H1
    clear hh
    cases i with
    | zero =>
      have h4' : ¬ (((0 : Nat) : Int) < 0) := by omega
      have h4'' : ¬ ((0 : Int) < ((0 : Nat) : Int)) := by omega
      have h4''' : decide ((0 : Int) < ((0 : Nat) : Int)) = false := by decide
      clear h h4 hprev hw
      go_enter Tryz.func59, Tryz.ntmps59
      go_wp2_with (first | (go_at_call 97; go_must (refine H1.out.mono ?_; rintro e w1 ⟨rfl, rfl⟩)) | (go_at_call 98; go_must (refine H4.out.mono ?_; rintro e w1 ⟨rfl, rfl⟩)))
      refine wp_region_calm (by kernel_rfl) (by kernel_rfl) ?_
      repeat
        with_reducible refine wpQuiet_step (fun K hK => ?_)
        first
          | (with_reducible apply calm_skip
             · rfl
             simp only [Act.put, List.setIfInBounds_toArray, List.set_cons_zero, List.set_cons_succ]
             refine hK _ ?_
             clear hK K)
          | (with_reducible apply calm_run
             · rfl
             · intro wq hC
               unfold Oper.quietAt
               go_simp
               first | done | with_reducible rfl | rfl
             simp only [Act.put, List.setIfInBounds_toArray, List.set_cons_zero, List.set_cons_succ]
             refine hK _ ?_
             clear hK K)
      with_reducible refine wpQuiet_nil ?_
      intro wq HQ
      have HM2 := Lib.hid (HM.out wq HQ.out)
      have HB := Lib.hid HQ.out
      go_wp2_with fail
      refine HM2.out.mono ?_
      rintro e w2 ⟨gn', gk', hK2, hg1, hg2, rfl, hT2⟩
      have HK2 := Lib.hid ((Keeps.ofBelow (F := Three rb gn gk) HB.out).trans hK2)
      have HT2 := Lib.hid hT2
      have hsz := HB.out.size
      have hg1' : gn' = gn ∨ w.heap.size ≤ gn' := by omega
      have hg2' : gk' = gk ∨ w.heap.size ≤ gk' := by omega
      clear hK2 hT2 hg1 hg2
      go_wp2_with fail
      go_ret
      exact ⟨gn', gk', HK2.out, hg1', hg2', rfl, HT2.out⟩
    | succ j =>
      obtain ⟨l, k, hk1, hj, hl, hlk, hkl, hel⟩ := hprev (Nat.succ_pos _)
      simp only [Nat.add_sub_cancel] at hj hlk
      rw [show ((j + 1 : Nat) : Int) = (j : Int) + 1 from by omega] at H4
      have h4' : ¬ ((j : Int) + 1 < 0) := by omega
      have h4'' : (0 : Int) < (j : Int) + 1 := by omega
      have hw1 : IntKind.i64.wrap ((j : Int) + 1 - 1) = (j : Int) := by rw [IntKind.wrap_i64]; omega
      have hw2 : IntKind.i64.wrap (j : Int) = (j : Int) := by rw [IntKind.wrap_i64]; omega
      obtain ⟨capn, capk, p1, p2, p3, p4, c0, c1, _, l1, l2, l3⟩ := h.head
      obtain ⟨ka, kc, hk4, hk5, _, hkat, d, _⟩ := h.kidc ha
      rw [← hl] at d hkat hk4
      obtain ⟨kb, ko, rfl, e1⟩ := hkat.at _ _ (intsV_get l j hj)
      rw [hlk] at e1
      obtain ⟨d0, _, _⟩ := h.nodec hk1
      rw [hel] at d0
      unfold maxLen at p2 p4 hk5
      clear h h4 hs hkat hl hlk hprev hw
      go_enter Tryz.func59, Tryz.ntmps59
      go_wp2_with (first | (go_at_call 97; go_must (refine H1.out.mono ?_; rintro e w1 ⟨rfl, rfl⟩)) | (go_at_call 98; go_must (refine H4.out.mono ?_; rintro e w1 ⟨rfl, rfl⟩)))
      refine wp_region_calm (by kernel_rfl) (by kernel_rfl) ?_
      repeat
        with_reducible refine wpQuiet_step (fun K hK => ?_)
        first
          | (with_reducible apply calm_skip
             · rfl
             simp only [Act.put, List.setIfInBounds_toArray, List.set_cons_zero, List.set_cons_succ]
             refine hK _ ?_
             clear hK K)
          | (with_reducible apply calm_run
             · rfl
             · intro wq hC
               have zc0 := cell_later hC.out c0
               have zc1 := cell_later hC.out c1
               have zd := cell_later hC.out d
               have ze1 := cell_later hC.out e1
               have zd0 := cell_later hC.out d0
               unfold Oper.quietAt
               go_simp
               first | done | with_reducible rfl | rfl
             simp only [Act.put, List.setIfInBounds_toArray, List.set_cons_zero, List.set_cons_succ]
             refine hK _ ?_
             clear hK K)
      with_reducible refine wpQuiet_nil ?_
      intro wq HQ
      have zc0 := cell_later HQ.out c0
      have zc1 := cell_later HQ.out c1
      have zd := cell_later HQ.out d
      have ze1 := cell_later HQ.out e1
      have zd0 := cell_later HQ.out d0
      have HM2 := Lib.hid (HM.out wq HQ.out)
      have HB := Lib.hid HQ.out
      go_wp2_with fail
      refine HM2.out.mono ?_
      rintro e w2 ⟨gn', gk', hK2, hg1, hg2, rfl, hT2⟩
      have HK2 := Lib.hid ((Keeps.ofBelow (F := Three rb gn gk) HB.out).trans hK2)
      have HT2 := Lib.hid hT2
      have hsz := HB.out.size
      have hg1' : gn' = gn ∨ w.heap.size ≤ gn' := by omega
      have hg2' : gk' = gk ∨ w.heap.size ≤ gk' := by omega
      clear hK2 hT2 hg1 hg2
      go_wp2_with fail
      go_ret
      exact ⟨gn', gk', HK2.out, hg1', hg2', rfl, HT2.out⟩

set_option maxRecDepth 100000 in
set_option maxHeartbeats 4000000 in
theorem rtext_new (T : TreeD) (rb gn gk : Nat) (w : World) (a i : Nat) (b : Int) (s : ByteArray) (ha : a < T.nodes.length) (hn : T.nodes.length ≤ 1048576) (hw : WF T) (h : RefO w rb gn gk T) (hh : holdsF T a = true) (h4 : placeF T a b = i) (hs : s.size ≠ 0)
    (hprev : 0 < i → ∃ (l : List Int) (k : Nat) (hk : k < T.nodes.length) (hj : i - 1 < l.length), l = kidsF T a ∧ l[i - 1] = k ∧ l.length ≤ 2097152 ∧ T.nodes[k].elem = true)
    (hik : i ≤ (kidsF T a).length) (hik2 : (kidsF T a).length ≤ 2097152) (hm : (T.nodes.length : Int) - 1 < T.most) :
    Calls Tryz.prog 59 #[.pointer (some ⟨rb, 0, none⟩), .int .i64 a, .int .i64 b, .string s] w fun e w' => ∃ gn' gk', Keeps (Three rb gn gk) w w' ∧ (gn' = gn ∨ w.heap.size ≤ gn') ∧ (gk' = gk ∨ w.heap.size ≤ gk') ∧ e = .returned (.int .i64 0) ∧ RefO w' rb gn' gk' (insertF (addF T (textN s)) a i T.nodes.length) := by
  have he : mkF T ⟨false, 0, ⟨#[]⟩, [], s, -1, []⟩ = (addF T (textN s), (T.nodes.length : Int), 0) := by rw [mkF, if_pos hm]; rfl
  have hal : (addF T (textN s)).nodes.length = T.nodes.length + 1 := by simp [addF]
  have hh : ((a : Int) == 0 || elemF T a) = true := hh
  have H1 := Lib.hid (relem_any T rb gn gk w a h)
  have H4 := Lib.hid (rat_all T rb gn gk w a b ha hw h)
  have hs' := size_toList_ne hs
  have HM : Hid (∀ u, Below w.heap.size w u → _) := Lib.hid (fun u (hu : Below w.heap.size w u) => radd_any T rb gn gk u false 0 ⟨#[]⟩ s [] 0 rfl none 0 (fun _ => rfl) (by decide) (by decide) hn (h.below hu) (AtF.of_new (At.nil _ _) (fun b o s h => by cases h)))
  rw [he] at HM
  rw [h4] at H4
  cases h0 : ((a : Int) == 0) <;> cases h1 : elemF T a
  · rw [h0, h1] at hh; cases hh
  all_goals
    rw [h1] at H1
    clear hh
    cases i with
    | zero =>
      have h4' : ¬ (((0 : Nat) : Int) < 0) := by omega
      have h4'' : ¬ ((0 : Int) < ((0 : Nat) : Int)) := by omega
      have h4''' : decide ((0 : Int) < ((0 : Nat) : Int)) = false := by decide
      clear h h4 hprev hw
      go_enter Tryz.func59, Tryz.ntmps59
      go_wp2_with (first | (go_at_call 97; go_must (refine H1.out.mono ?_; rintro e w1 ⟨rfl, rfl⟩)) | (go_at_call 98; go_must (refine H4.out.mono ?_; rintro e w1 ⟨rfl, rfl⟩)))
      refine wp_region_calm (by kernel_rfl) (by kernel_rfl) ?_
      repeat
        with_reducible refine wpQuiet_step (fun K hK => ?_)
        first
          | (with_reducible apply calm_skip
             · rfl
             simp only [Act.put, List.setIfInBounds_toArray, List.set_cons_zero, List.set_cons_succ]
             refine hK _ ?_
             clear hK K)
          | (with_reducible apply calm_run
             · rfl
             · intro wq hC
               unfold Oper.quietAt
               go_simp
               first | done | with_reducible rfl | rfl
             simp only [Act.put, List.setIfInBounds_toArray, List.set_cons_zero, List.set_cons_succ]
             refine hK _ ?_
             clear hK K)
      with_reducible refine wpQuiet_nil ?_
      intro wq HQ
      have HM2 := Lib.hid (HM.out wq HQ.out)
      have HB := Lib.hid HQ.out
      go_wp2_with fail
      refine HM2.out.mono ?_
      rintro e w2 ⟨gn', gk', hK2, hg1, hg2, rfl, hT2⟩
      have hsz := HB.out.size
      have hsz2 := hK2.size
      have hg1' : gn' = gn ∨ w.heap.size ≤ gn' := by omega
      have hg2' : gk' = gk ∨ w.heap.size ≤ gk' := by omega
      have HK2 := Lib.hid (keeps_three (Keeps.ofBelow (F := Three rb gn gk) HB.out) (hK2 : Keeps (Three rb gn gk) wq w2) (.inl rfl) (.inl rfl))
      have H8 := Lib.hid (rlay_any (addF T (textN s)) rb gn' gk' w2 a _ T.nodes.length (by rw [hal]; omega) (by rw [hal]; omega) (by rw [addF_kids T _ a ha]; exact hik) (by rw [addF_kids T _ a ha]; exact hik2) hT2)
      clear hK2 hT2 hg1 hg2
      go_wp2_with fail
      refine H8.out.mono ?_
      rintro e w3 ⟨rfl, hT3, hK3⟩
      have HT3 := Lib.hid hT3
      have HK3 := Lib.hid (keeps_three HK2.out hK3 hg1' hg2')
      clear hT3 hK3
      go_wp2_with fail
      go_ret
      exact ⟨gn', gk', HK3.out, hg1', hg2', rfl, HT3.out⟩
    | succ j =>
      obtain ⟨l, k, hk1, hj, hl, hlk, hkl, hel⟩ := hprev (Nat.succ_pos _)
      simp only [Nat.add_sub_cancel] at hj hlk
      rw [show ((j + 1 : Nat) : Int) = (j : Int) + 1 from by omega] at H4
      have h4' : ¬ ((j : Int) + 1 < 0) := by omega
      have h4'' : (0 : Int) < (j : Int) + 1 := by omega
      have hw1 : IntKind.i64.wrap ((j : Int) + 1 - 1) = (j : Int) := by rw [IntKind.wrap_i64]; omega
      have hw2 : IntKind.i64.wrap (j : Int) = (j : Int) := by rw [IntKind.wrap_i64]; omega
      obtain ⟨capn, capk, p1, p2, p3, p4, c0, c1, _, l1, l2, l3⟩ := h.head
      obtain ⟨ka, kc, hk4, hk5, _, hkat, d, _⟩ := h.kidc ha
      rw [← hl] at d hkat hk4
      obtain ⟨kb, ko, rfl, e1⟩ := hkat.at _ _ (intsV_get l j hj)
      rw [hlk] at e1
      obtain ⟨d0, _, _⟩ := h.nodec hk1
      rw [hel] at d0
      unfold maxLen at p2 p4 hk5
      clear h h4 hs hkat hl hlk hprev hw
      go_enter Tryz.func59, Tryz.ntmps59
      go_wp2_with (first | (go_at_call 97; go_must (refine H1.out.mono ?_; rintro e w1 ⟨rfl, rfl⟩)) | (go_at_call 98; go_must (refine H4.out.mono ?_; rintro e w1 ⟨rfl, rfl⟩)))
      refine wp_region_calm (by kernel_rfl) (by kernel_rfl) ?_
      repeat
        with_reducible refine wpQuiet_step (fun K hK => ?_)
        first
          | (with_reducible apply calm_skip
             · rfl
             simp only [Act.put, List.setIfInBounds_toArray, List.set_cons_zero, List.set_cons_succ]
             refine hK _ ?_
             clear hK K)
          | (with_reducible apply calm_run
             · rfl
             · intro wq hC
               have zc0 := cell_later hC.out c0
               have zc1 := cell_later hC.out c1
               have zd := cell_later hC.out d
               have ze1 := cell_later hC.out e1
               have zd0 := cell_later hC.out d0
               unfold Oper.quietAt
               go_simp
               first | done | with_reducible rfl | rfl
             simp only [Act.put, List.setIfInBounds_toArray, List.set_cons_zero, List.set_cons_succ]
             refine hK _ ?_
             clear hK K)
      with_reducible refine wpQuiet_nil ?_
      intro wq HQ
      have zc0 := cell_later HQ.out c0
      have zc1 := cell_later HQ.out c1
      have zd := cell_later HQ.out d
      have ze1 := cell_later HQ.out e1
      have zd0 := cell_later HQ.out d0
      have HM2 := Lib.hid (HM.out wq HQ.out)
      have HB := Lib.hid HQ.out
      go_wp2_with fail
      refine HM2.out.mono ?_
      rintro e w2 ⟨gn', gk', hK2, hg1, hg2, rfl, hT2⟩
      have hsz := HB.out.size
      have hsz2 := hK2.size
      have hg1' : gn' = gn ∨ w.heap.size ≤ gn' := by omega
      have hg2' : gk' = gk ∨ w.heap.size ≤ gk' := by omega
      have HK2 := Lib.hid (keeps_three (Keeps.ofBelow (F := Three rb gn gk) HB.out) (hK2 : Keeps (Three rb gn gk) wq w2) (.inl rfl) (.inl rfl))
      have H8 := Lib.hid (rlay_any (addF T (textN s)) rb gn' gk' w2 a _ T.nodes.length (by rw [hal]; omega) (by rw [hal]; omega) (by rw [addF_kids T _ a ha]; exact hik) (by rw [addF_kids T _ a ha]; exact hik2) hT2)
      clear hK2 hT2 hg1 hg2
      rw [show ((j + 1 : Nat) : Int) = (j : Int) + 1 from by omega] at H8
      go_wp2_with fail
      refine H8.out.mono ?_
      rintro e w3 ⟨rfl, hT3, hK3⟩
      have HT3 := Lib.hid hT3
      have HK3 := Lib.hid (keeps_three HK2.out hK3 hg1' hg2')
      clear hT3 hK3
      go_wp2_with fail
      go_ret
      exact ⟨gn', gk', HK3.out, hg1', hg2', rfl, HT3.out⟩

theorem rText_any (T : TreeD) (rb gn gk : Nat) (w : World) (a b : Int) (s : ByteArray) (hw : WF T) (hn : T.nodes.length ≤ 1048576) (hts : ∀ i (h : i < T.nodes.length), T.nodes[i].text.size + s.size ≤ 9223372036854775807) (h : RefO w rb gn gk T) :
    Calls Tryz.prog 59 #[.pointer (some ⟨rb, 0, none⟩), .int .i64 a, .int .i64 b, .string s] w fun e w' => ∃ gn' gk', Keeps (Three rb gn gk) w w' ∧ (gn' = gn ∨ w.heap.size ≤ gn') ∧ (gk' = gk ∨ w.heap.size ≤ gk') ∧ e = .returned (.int .i64 (textE T a b s).2) ∧ RefO w' rb gn' gk' (textE T a b s).1 := by
  cases hok : (holdsF T a && decide (0 ≤ placeF T a b))
  · have he : textE T a b s = (T, 47) := by rw [textE, hok]; rfl
    rw [he]
    exact (rtext_no T rb gn gk w a b s hw h hok).mono fun e w' ⟨h1, h2⟩ => by
      subst h2
      exact ⟨gn, gk, Keeps.refl _ _, .inl rfl, .inl rfl, h1, h⟩
  · have he : textE T a b s = if s.size = 0 then (T, 0) else textAt T a b s := by rw [textE, hok]; rfl
    rw [he]
    obtain ⟨h1, h4⟩ := Bool.and_eq_true_iff.1 hok
    have h4 := of_decide_eq_true h4
    have ha := holdsF_lt hw.pos h1
    obtain ⟨a, rfl⟩ := Int.eq_ofNat_of_zero_le ha.1
    have ha' : a < T.nodes.length := by omega
    by_cases hs : s.size = 0
    · rw [if_pos hs]
      exact (rtext_empty T rb gn gk w a b s ha' hw h h1 h4 hs).mono fun e w' ⟨h1, h2⟩ => by
        subst h2
        exact ⟨gn, gk, Keeps.refl _ _, .inl rfl, .inl rfl, h1, h⟩
    · rw [if_neg hs]
      obtain ⟨i, hi, hik⟩ := placeF_nat T a b h4
      have hks := kids_short hw a ha'
      have hkk := kidsF_of T a ha'
      have hin : (placeF T a b).toNat = i := by rw [hi]; rfl
      rw [textAt, hin]
      by_cases hp : 0 < i ∧ elemF T (prevF T a i) = false
      · rw [if_pos hp]
        obtain ⟨k, hk, hj, e1, e2, e3, _⟩ := prevF_of hw ha' hp.1 hik
        rw [e2] at hp ⊢
        obtain ⟨j, rfl⟩ : ∃ j, i = j + 1 := ⟨i - 1, by omega⟩
        exact (rtext_longer T rb gn gk w a j k b s ha' hk hw h h1 (by rw [hi]; omega) hs _ hkk.symm (by simpa using hj) (by simpa using e1) (by rw [← hkk]; omega) (by rw [← e3]; exact hp.2) (hts k hk)).mono fun e w' ⟨h1, h2, h3⟩ => ⟨gn, gk, h3, .inl rfl, .inl rfl, h1, h2⟩
      · rw [if_neg hp]
        have hprev : 0 < i → ∃ (l : List Int) (k : Nat) (hk : k < T.nodes.length) (hj : i - 1 < l.length), l = kidsF T a ∧ l[i - 1] = k ∧ l.length ≤ 2097152 ∧ T.nodes[k].elem = true := by
          intro h0
          obtain ⟨k, hk, hj, e1, e2, e3, _⟩ := prevF_of hw ha' h0 hik
          refine ⟨_, k, hk, hj, hkk.symm, e1, by rw [← hkk]; omega, ?_⟩
          rw [← e3, ← e2]
          cases hh : elemF T (prevF T a i)
          · exact absurd ⟨h0, hh⟩ hp
          · rfl
        by_cases hm : (T.nodes.length : Int) - 1 < T.most
        · rw [if_pos hm]
          exact rtext_new T rb gn gk w a i b s ha' hn hw h h1 hi hs hprev hik (by omega) hm
        · rw [if_neg hm]
          exact rtext_full T rb gn gk w a i b s ha' hn hw h h1 hi hs hprev hm
end Go.Proofs.YtclflmjpdglgiaaGreat
