/-
  Contracts: what only reads a tree: (*open.Tree).Len, is, elem, holds, place: what each computes; the world stays.
-/
import Derived.Test.YtidbihdnginmcaaRows
import Derived.Test.YtidbihdnginmcaaOpenSpec
namespace Go.Proofs.Ytidbihdnginmcaa
open Go.RowKit Mem

abbrev TreeO (w : World) (tb g : Nat) (T : TreeD) : Prop := TreeAt 91 88 w tb g T

section
variable (T : TreeD) (tb g : Nat) (w : World)
theorem len_any (h : TreeO w tb g T) : Calls Try.prog 20 #[.pointer (some ⟨tb, 0, none⟩)] w fun e w' => e = .returned (.int .i64 ((T.nodes.length : Int) - 1)) ∧ w = w' := by
  obtain ⟨cap, h1, h2, c0, _, _, _⟩ := h.head
  unfold maxLen at h2
  clear h
  go_enter Try.func20, Try.ntmps20
  go_wp2
  go_ret
  exact ⟨rfl, rfl⟩

theorem is_any (n : Int) (h : TreeO w tb g T) : Calls Try.prog 56 #[.pointer (some ⟨tb, 0, none⟩), .int .i64 n] w fun e w' => e = .returned (.bool (isF T n)) ∧ w = w' := by
  obtain ⟨cap, h1, h2, c0, _, _, _⟩ := h.head
  unfold maxLen at h2
  have HP : Hid (isF T n = (decide (1 ≤ n) && decide (n < (T.nodes.length : Int)))) := by show _ = _; rfl
  clear h
  by_cases hn : 1 ≤ n
  all_goals
    go_enter Try.func56, Try.ntmps56
    go_wp2
    go_ret
    exact ⟨ret_bool (by rw [HP.out]; first | (simp [hn]; done) | (simp; omega)), rfl⟩

theorem elem_any (n : Int) (h : TreeO w tb g T) : Calls Try.prog 91 #[.pointer (some ⟨tb, 0, none⟩), .int .i64 n] w fun e w' => e = .returned (.bool (elemF T n)) ∧ w = w' := by
  have HC := Lib.hid (is_any T tb g w n h)
  cases hi : isF T n
  · have HP : Hid (elemF T n = false) := by show _ = _; rw [elemF, hi]; rfl
    rw [hi] at HC
    clear h
    go_enter Try.func91, Try.ntmps91
    go_wp2_with (go_at_call 56; refine HC.out.mono ?_; rintro e w1 ⟨rfl, rfl⟩)
    go_ret
    exact ⟨ret_bool HP.out.symm, rfl⟩
  · have hb : 1 ≤ n ∧ n < (T.nodes.length : Int) := by simpa [isF] using hi
    obtain ⟨i, rfl⟩ := Int.eq_ofNat_of_zero_le (by omega : 0 ≤ n)
    have hlt : i < T.nodes.length := by omega
    have HP : Hid (elemF T i = T.nodes[i].elem) := by show _ = _; exact elemF_of T i (by omega) hlt
    obtain ⟨cap, h1, h2, c0, _, _, _⟩ := h.head
    obtain ⟨aa, ac, ka, kc, _, _, _, _, _, _, _, _, hc, _⟩ := h.node hlt
    have d0 := hc 0 _ rfl
    rw [Nat.add_zero] at d0
    unfold maxLen at h2
    rw [hi] at HC
    clear h hc hi
    go_enter Try.func91, Try.ntmps91
    go_wp2_with (go_at_call 56; refine HC.out.mono ?_; rintro e w1 ⟨rfl, rfl⟩)
    go_ret
    exact ⟨ret_bool HP.out.symm, rfl⟩

theorem holds_any (n : Int) (h : TreeO w tb g T) : Calls Try.prog 57 #[.pointer (some ⟨tb, 0, none⟩), .int .i64 n] w fun e w' => e = .returned (.bool (holdsF T n)) ∧ w = w' := by
  have HC := Lib.hid (elem_any T tb g w n h)
  clear h
  by_cases hn : n = 0
  · have HP : Hid (holdsF T n = true) := by show _ = _; rw [holdsF, hn]; rfl
    subst hn
    go_enter Try.func57, Try.ntmps57
    go_wp2_with fail
    go_ret
    exact ⟨ret_bool HP.out.symm, rfl⟩
  · have hn' : (n == 0) = false := by simpa using hn
    have HP : Hid (holdsF T n = elemF T n) := by show _ = _; rw [holdsF, hn']; rfl
    clear hn
    go_enter Try.func57, Try.ntmps57
    go_wp2_with (go_at_call 91; refine HC.out.mono ?_; rintro e w1 ⟨rfl, rfl⟩)
    go_ret
    exact ⟨ret_bool HP.out.symm, rfl⟩

theorem place_any (parent : Nat) (before : Int) (hp : parent < T.nodes.length) (h : TreeO w tb g T) :
    Calls Try.prog 59 #[.pointer (some ⟨tb, 0, none⟩), .int .i64 parent, .int .i64 before] w fun e w' => e = .returned (.int .i64 (placeF T parent before)) ∧ w = w' := by
  obtain ⟨cap, h1, h2, c0, _, _, _⟩ := h.head
  obtain ⟨aa, ac, ka, kc, _, _, _, hk1, hk2, _, _, hk, hc, _⟩ := h.node hp
  have d6 := hc 6 _ rfl
  obtain ⟨l, hl⟩ : ∃ l, l = T.nodes[parent].kids := ⟨_, rfl⟩
  rw [← hl] at d6 hk hk1
  have HK := Lib.hid hk.at
  have HL : Hid (kidsF T parent = l) := by show _ = _; rw [kidsF_of T parent hp, hl]
  unfold maxLen at h2 hk2
  clear h hc hk hl
  by_cases hb : before = 0
  · have HP : Hid (placeF T parent before = l.length) := by show _ = _; rw [placeF, if_pos hb, HL.out]
    subst hb
    go_enter Try.func59, Try.ntmps59
    go_wp2_with fail
    go_ret
    exact ⟨ret_int HP.out.symm, rfl⟩
  · have hb' : (before == 0) = false := by simpa using hb
    have HP : Hid (placeF T parent before = idxF l before 0) := by show _ = _; rw [placeF, if_neg hb, HL.out]
    clear hb
    go_enter Try.func59, Try.ntmps59
    go_wp2_with fail
    go_loop [24] (fun i => ∃ k : Nat, k ≤ l.length ∧ i = .int .i64 k ∧ idxF l before 0 = idxF (l.drop k) before k) (fun i => l.length - (intOf i).toNat)
    case atStart => exact ⟨0, Nat.zero_le _, rfl, rfl⟩
    case round =>
      obtain ⟨k, hk, rfl, hv⟩ := hrel
      have HV := Lib.hid hv
      clear hv
      by_cases hlt : k < l.length
      · obtain ⟨b, o, rfl, e1⟩ := HK.out _ _ (intsV_get l k hlt)
        by_cases he : l[k] = before
        · have he' : (l[k] == before) = true := by simpa using he
          have HE := Lib.hid he
          clear he
          go_wp2_with fail
          go_ret
          exact ⟨ret_int (by rw [HP.out, HV.out, idxF_hit l before k hlt HE.out]), rfl⟩
        · have he' : (l[k] == before) = false := by simpa using he
          have HE := Lib.hid he
          clear he
          go_wp2_with fail
          go_round
          case rel => exact ⟨k + 1, by omega, by go_num, by rw [HV.out, idxF_step l before k hlt HE.out]; rfl⟩
          case measure => simp [intOf]; omega
      · go_wp2_with fail
        go_ret
        exact ⟨ret_int (by rw [HP.out, HV.out, List.drop_of_length_le (by omega)]; rfl), rfl⟩

theorem below_any (n top : Int) (hn : n < T.nodes.length) (hw : WF T) (h : TreeO w tb g T) :
    Calls Try.prog 58 #[.pointer (some ⟨tb, 0, none⟩), .int .i64 n, .int .i64 top] w fun e w' => e = .returned (.bool (belowF T n top)) ∧ w = w' := by
  obtain ⟨cap, h1, h2, c0, _, _, _⟩ := h.head
  obtain ⟨r, hr⟩ := hw.rank
  have HR := Lib.hid hr
  have HW := Lib.hid hw
  have HT := Lib.hid h
  unfold maxLen at h2
  clear h hw hr
  go_enter Try.func58, Try.ntmps58
  go_wp2_with fail
  go_loop [1] (fun x => ∃ m : Int, m < T.nodes.length ∧ x = .int .i64 m ∧ belowF T n top = belowF T m top) (fun x => upM r (intOf x))
  case atStart => exact ⟨n, hn, rfl, rfl⟩
  case round =>
    obtain ⟨m, hm, rfl, hv⟩ := hrel
    have HV := Lib.hid hv
    clear hv
    by_cases hp : 0 < m
    · by_cases he : m = top
      · have HE : Hid (belowF T m top = true) := by show _ = _; rw [he]; exact belowF_true .here
        have he' : (m == top) = true := by simpa using he
        clear he
        go_wp2_with fail
        go_ret
        exact ⟨ret_bool (by rw [HV.out, HE.out]), rfl⟩
      · have HE : Hid (belowF T m top = belowF T (parentF T m) top) := belowF_congr (reach_up hp he)
        have he' : (m == top) = false := by simpa using he
        clear he
        obtain ⟨i, rfl⟩ := Int.eq_ofNat_of_zero_le (by omega : 0 ≤ m)
        have hi : i < T.nodes.length := by omega
        obtain ⟨aa, ac, ka, kc, _, _, _, _, _, _, _, _, hc, _⟩ := HT.out.node hi
        have d5 := hc 5 _ rfl
        have HP : Hid (parentF T i = T.nodes[i].parent) := parentF_of T i hi
        have hpar := HW.out.par i hi
        rw [HP.out] at hpar
        clear hc
        go_wp2_with fail
        go_round
        case rel => exact ⟨T.nodes[i].parent, hpar.2, rfl, by rw [HV.out, HE.out, HP.out]⟩
        case measure =>
          have hlt2 := HR.out i hi
          rw [HP.out] at hlt2
          exact upM_lt r i T.nodes[i].parent hp hlt2
    · have HE : Hid (belowF T m top = (m == top)) := belowF_low (by omega)
      go_wp2_with fail
      go_ret
      exact ⟨ret_bool (by rw [HV.out, HE.out]), rfl⟩

theorem parent_any (n : Int) (h : TreeO w tb g T) :
    Calls Try.prog 21 #[.pointer (some ⟨tb, 0, none⟩), .int .i64 n] w fun e w' => e = .returned (.int .i64 (if isF T n then parentF T n else -1)) ∧ w = w' := by
  have HC := Lib.hid (is_any T tb g w n h)
  cases hi : isF T n
  · rw [hi] at HC
    clear h
    go_enter Try.func21, Try.ntmps21
    go_wp2_with (go_at_call 56; refine HC.out.mono ?_; rintro e w1 ⟨rfl, rfl⟩)
    go_ret
    exact ⟨rfl, rfl⟩
  · have hb : 1 ≤ n ∧ n < (T.nodes.length : Int) := by simpa [isF] using hi
    obtain ⟨i, rfl⟩ := Int.eq_ofNat_of_zero_le (by omega : 0 ≤ n)
    have hlt : i < T.nodes.length := by omega
    have HP : Hid (parentF T i = T.nodes[i].parent) := parentF_of T i hlt
    obtain ⟨cap, h1, h2, c0, _, _, _⟩ := h.head
    obtain ⟨aa, ac, ka, kc, _, _, _, _, _, _, _, _, hc, _⟩ := h.node hlt
    have d5 := hc 5 _ rfl
    unfold maxLen at h2
    rw [hi] at HC
    clear h hc hi
    go_enter Try.func21, Try.ntmps21
    go_wp2_with (go_at_call 56; refine HC.out.mono ?_; rintro e w1 ⟨rfl, rfl⟩)
    go_ret
    exact ⟨ret_int (by rw [HP.out]), rfl⟩

theorem Is_any (n : Int) (h : TreeO w tb g T) : Calls Try.prog 61 #[.pointer (some ⟨tb, 0, none⟩), .int .i64 n] w fun e w' => e = .returned (.bool (elemF T n)) ∧ w = w' := by
  have HC := Lib.hid (elem_any T tb g w n h)
  clear h
  go_enter Try.func61, Try.ntmps61
  go_wp2_with (go_at_call 91; refine HC.out.mono ?_; rintro e w1 ⟨rfl, rfl⟩)
  go_ret
  exact ⟨rfl, rfl⟩
end
end Go.Proofs.Ytidbihdnginmcaa
