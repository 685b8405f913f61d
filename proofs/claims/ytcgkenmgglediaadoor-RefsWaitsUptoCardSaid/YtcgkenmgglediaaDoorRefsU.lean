/-
  Contract: colanderref12.More: could bytes behind make another reference?
-/
import Derived.Test.YtcgkenmgglediaaDoorRefsN
import Derived.Test.YtcgkenmgglediaaDoorRefsO
namespace Go.Proofs.YtcgkenmgglediaaDoor
open Go.RowKit Mem

theorem namesT_any (r : Str) : (namesT.any fun x => r.isPrefixOf x.1) = beginsF r := by
  have h1 : (namesT.all fun x => (bareT ++ boundT).any fun q => q.1 == x.1) = true := by decide +kernel
  have h2 : ((bareT ++ boundT).all fun q => namesT.any fun x => q.1 == x.1) = true := by decide +kernel
  unfold beginsF
  rw [Bool.eq_iff_iff, List.any_eq_true, List.any_eq_true]
  constructor
  · rintro ⟨x, hx, h⟩
    obtain ⟨q, hq, e⟩ := List.any_eq_true.1 (List.all_eq_true.1 h1 x hx)
    exact ⟨q, hq, by rw [beq_iff_eq.1 e]; exact h⟩
  · rintro ⟨q, hq, h⟩
    obtain ⟨x, hx, e⟩ := List.any_eq_true.1 (List.all_eq_true.1 h2 q hq)
    exact ⟨x, hx, by rw [← beq_iff_eq.1 e]; exact h⟩
theorem namesT_step (r : Str) (k : Nat) (h : k < namesT.length) (b : Bool) (hb : r.isPrefixOf namesT[k].1 = b) : ((namesT.drop k).any fun x => r.isPrefixOf x.1) = (b || (namesT.drop (k + 1)).any fun x => r.isPrefixOf x.1) := by
  rw [List.drop_eq_getElem_cons h, List.any_cons, hb]
theorem more_pre {r nl : Str} (h : r.length < nl.length + 1) : (38 :: r : Str).isPrefixOf (38 :: (nl ++ [59])) = r.isPrefixOf nl := by
  rw [Bool.eq_iff_iff, List.isPrefixOf_iff_prefix, List.isPrefixOf_iff_prefix, List.cons_prefix_cons]
  constructor
  · rintro ⟨_, h1⟩
    exact List.prefix_of_prefix_length_le h1 (List.prefix_append _ _) (by omega)
  · intro h1
    exact ⟨rfl, h1.trans (List.prefix_append _ _)⟩
theorem more_long {r nl : Str} (h : ¬ r.length < nl.length + 1) : r.isPrefixOf nl = false := by
  rw [Bool.eq_false_iff]
  intro h'
  have := (List.isPrefixOf_iff_prefix.1 h').length_le
  omega

set_option maxRecDepth 100000 in
set_option maxHeartbeats 4000000 in
theorem More12_any (s : ByteArray) (w : World) (hs : s.size ≤ 9223372036854775807) : Calls Tryd.prog 20 #[.string s] w fun e w' => e = .returned (.bool (moreF s.toList)) ∧ Below w.heap.size w w' := by
  have key : s.toList.head? ≠ some 38 → Calls Tryd.prog 20 #[.string s] w fun e w' => e = .returned (.bool (moreF s.toList)) ∧ Below w.heap.size w w' := by
    intro hh
    have hp := pre_no hh
    have HT : Hid (moreF s.toList = false) := by show _ = _; rw [moreF, hp, hp]; rfl
    have HC := Lib.hid (fun u => beg12 (s := s) (p := ⟨#[38, 35]⟩) (b := false) (by rw [b3835]; exact hp [35]) u)
    have HC2 := Lib.hid (fun u => beg12 (s := s) (p := ⟨#[38]⟩) (b := false) (by rw [b38]; exact hp []) u)
    clear hp hh
    go_enter Tryd.func20, Tryd.ntmps20
    go_wp2_with (go_at_call 33; go_must (first | (with_reducible refine (HC.out _).mono ?_) | (with_reducible refine (HC2.out _).mono ?_)); rintro e w1 ⟨rfl, rfl⟩)
    go_ret
    exact ⟨ret_bool HT.out.symm, Below.refl _ _⟩
  rcases amp_cases s.toList with ⟨r, h⟩ | ⟨r, h, h35⟩ | ⟨c, r, h, h'⟩ | h
  · have hrs : r.length + 2 = s.size := by rw [← size_toList, h]; simp
    have hle := numN_le r
    have HT : Hid (moreF s.toList = decide (numN r = r.length)) := by show _ = _; rw [h, moreF_hash]; rfl
    have HC := Lib.hid (fun u => beg12 (s := s) (p := ⟨#[38, 35]⟩) (b := true) (by rw [h, b3835]; simp) u)
    have hrl : (s.extract 2 s.size).toList = r := by rw [ext_drop, h]; rfl
    have hrun := fun u => run_any (s.extract 2 s.size) u (by rw [ByteArray.size_extract]; omega)
    rw [hrl] at hrun
    have HRun := Lib.hid hrun
    generalize numN r = n at *
    generalize (numG r).1 = k at *
    generalize (numG r).2 = g at *
    obtain ⟨l, hl⟩ : ∃ l, l = r.length := ⟨_, rfl⟩
    rw [← hl] at HT hrs hle
    have h2s : 2 ≤ s.size := by omega
    have h2n : 2 + n ≤ s.size := by omega
    have HRS := Lib.hid hrs
    clear h hrun hrl key hl hrs
    go_enter Tryd.func20, Tryd.ntmps20
    go_wp2_with (first
      | (go_at_call 33; go_must (refine (HC.out _).mono ?_; rintro e w1 ⟨rfl, rfl⟩))
      | (go_at_call 40; go_must (refine (HRun.out _).mono ?_; rintro e w1 ⟨v, rfl, hv1, hv2, hb⟩; have HB0 := Lib.hid hb; clear hb hv1 hv2)))
    go_ret
    exact ⟨ret_bool (by rw [HT.out, Bool.eq_iff_iff]; have := HRS.out; simp; omega), HB0.out⟩
  · have hrs : r.length + 1 = s.size := by rw [← size_toList, h]; simp
    have HT : Hid (moreF s.toList = beginsF r) := by show _ = _; rw [h, moreF_amp h35]
    have HC := Lib.hid (fun u => beg12 (s := s) (p := ⟨#[38, 35]⟩) (b := false) (by rw [h, b3835]; exact pre2_no h35) u)
    have HC2 := Lib.hid (fun u => beg12 (s := s) (p := ⟨#[38]⟩) (b := true) (by rw [h, b38]; simp) u)
    have HP := Lib.hid (namesT_any r)
    have hl44 : namesT.length = 44 := rfl
    have HL := Lib.hid hl44
    have HS := Lib.hid h
    have HRS := Lib.hid hrs
    have HN := Lib.hid (Names_any w)
    clear h hrs key h35 hl44
    go_enter Tryd.func20, Tryd.ntmps20
    go_wp2_with (first
      | (go_at_call 33; go_must (first | (with_reducible refine (HC.out _).mono ?_) | (with_reducible refine (HC2.out _).mono ?_)); rintro e w1 ⟨rfl, rfl⟩)
      | (go_at_call 32; go_must (refine HN.out.mono ?_; rintro e w1 ⟨rfl, ha, hb, hz⟩; have HA := Lib.hid ha; have HB := Lib.hid hb; clear ha hb hz)))
    go_loop [7] (fun i => ∃ k : Nat, k ≤ 44 ∧ i = .int .i64 k ∧ ((namesT.drop k).any fun x => r.isPrefixOf x.1) = beginsF r) (fun i => 44 - (intOf i).toNat)
    case atStart => exact ⟨0, by omega, rfl, by rw [List.drop_zero]; exact HP.out⟩
    case round =>
      obtain ⟨k, hk, rfl, hv⟩ := hrel
      have HV := Lib.hid hv
      clear hv
      by_cases hlt : k < 44
      · have hlt' : k < namesT.length := by rw [HL.out]; exact hlt
        obtain ⟨r0, _, _, _⟩ := rowsV_get namesT k hlt'
        have c0 := HA.out.get r0
        rw [Nat.zero_add] at c0
        obtain ⟨hx1, _, _⟩ := names_small namesT[k] (List.getElem_mem hlt')
        have hst := fun b hb => namesT_step r k hlt' b hb
        obtain ⟨nl, hnl⟩ : ∃ nl, nl = namesT[k].1 := ⟨_, rfl⟩
        rw [← hnl] at c0 hx1 hst
        obtain ⟨nm, hnm⟩ : ∃ nm, nm = strB nl := ⟨_, rfl⟩
        have hns : nm.size = nl.length := by rw [hnm, strB_size]
        rw [← hnm] at c0
        have hns2 : nm.size ≤ 13 := by omega
        have hcat : (⟨#[38]⟩ ++ nm ++ ⟨#[59]⟩ : ByteArray).toList = 38 :: (nl ++ [59]) := by rw [toList_append, toList_append, b38, b59, hnm, toList_strB]; rfl
        have hcs : (⟨#[38]⟩ ++ nm ++ ⟨#[59]⟩ : ByteArray).size = nm.size + 2 := by rw [← size_toList, hcat, hns]; simp
        have hbg := fun b hb u => beg12 (s := ⟨#[38]⟩ ++ nm ++ ⟨#[59]⟩) (p := s) (b := b) hb u
        rw [hcat, HS.out] at hbg
        by_cases hl : r.length < nl.length + 1
        · have hsl : s.size < nm.size + 2 := by have := HRS.out; omega
          have hsl' : (s.size : Int) < (nm.size : Int) + 2 := by omega
          cases hb : r.isPrefixOf nl
          · have HH := Lib.hid (hbg false (by rw [more_pre hl]; exact hb))
            have HST := Lib.hid (hst false hb)
            clear hbg hst hnl hnm hns hcat hb hl hx1 hsl
            go_wp2_with (go_at_call 33; go_must (refine (HH.out _).mono ?_; rintro e w1 ⟨rfl, rfl⟩))
            go_round
            case rel => exact ⟨k + 1, by omega, by go_num, by rw [← HV.out, HST.out, Bool.false_or]⟩
            case measure => simp [intOf]; omega
          · have HH := Lib.hid (hbg true (by rw [more_pre hl]; exact hb))
            have HST := Lib.hid (hst true hb)
            clear hbg hst hnl hnm hns hcat hb hl hx1 hsl
            go_wp2_with (go_at_call 33; go_must (refine (HH.out _).mono ?_; rintro e w1 ⟨rfl, rfl⟩))
            go_ret
            exact ⟨ret_bool (by rw [HT.out, ← HV.out, HST.out, Bool.true_or]), HB.out⟩
        · have hsl' : ¬ (s.size : Int) < (nm.size : Int) + 2 := by have := HRS.out; omega
          have HST := Lib.hid (hst false (more_long hl))
          clear hbg hst hnl hnm hns hcat hl hx1
          go_wp2_with fail
          go_round
          case rel => exact ⟨k + 1, by omega, by go_num, by rw [← HV.out, HST.out, Bool.false_or]⟩
          case measure => simp [intOf]; omega
      · go_wp2_with fail
        go_ret
        exact ⟨ret_bool (by rw [HT.out, ← HV.out, List.drop_of_length_le (by rw [HL.out]; omega)]; rfl), HB.out⟩
  · exact key (by rw [h]; simpa using h')
  · exact key (by rw [h]; simp)
end Go.Proofs.YtcgkenmgglediaaDoor
