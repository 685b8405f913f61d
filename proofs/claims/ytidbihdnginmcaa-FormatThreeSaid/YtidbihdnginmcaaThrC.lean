/-
  The walk of FormatThree: it returns true for every list of names, every list of marks.
-/
import Derived.Test.YtidbihdnginmcaaThrB
import Derived.Test.YtidbihdnginmcaaLawB
import Derived.Deep.Cut
import Derived.Deep.CutRange
import Derived.Deep.CutBlock
import Derived.Deep.RegionHeld3
namespace Go.Proofs.Ytidbihdnginmcaa
open Go.RowKit Mem Law

set_option maxRecDepth 100000 in
set_option maxHeartbeats 8000000 in
theorem law_FormatThree (lst : List ByteArray) (a : Option Addr) (c : Nat) (hc : lst.length ≤ c) (hcm : c ≤ maxLen) {w : World} (ha : At w a (strsV lst)) (mks : List Bool) (am : Option Addr) (cm : Nat) (hm : mks.length ≤ cm) (hmm : cm ≤ maxLen) (hma : At w am (boolsV mks)) :
    Calls Try.prog 8 #[.slice a lst.length c, .slice am mks.length cm] w fun e w' => e = .returned (.bool true) ∧ Below w.heap.size w w' := by
  have HA := Lib.hid ha
  have HM := Lib.hid hma
  have hll : lst.length ≤ 9223372036854775807 := by unfold maxLen at hcm; omega
  have hml : mks.length ≤ 9223372036854775807 := by unfold maxLen at hmm; omega
  clear ha hma hc hcm hm hmm
  go_enter Try.func8, Try.ntmps8
  go_wp2_with fail
  refine (shown15_any _).mono ?_
  rintro e w1 ⟨rfl, hb1⟩
  have HNew := Lib.hid (begun_any 600 (by decide) w w1 hb1)
  clear hb1
  go_wp2_with fail
  refine HNew.out.mono ?_
  rintro e w2 ⟨xb, tb, sb, lb, rfl, h2, hw2⟩
  have hx2 := h2.exlt xb rfl
  have hb2 := h2.below.size
  obtain ⟨B0, hB0⟩ : ∃ B0, B0 = w2.heap.size := ⟨_, rfl⟩
  have hL2 : LX w B0 tb sb lb xb (.slice none 0 0) (chainT 600 []) (upN 0) [] [] w2 := by
    refine ⟨?_, hw2, ⟨rfl, .inl ⟨rfl, rfl⟩⟩, by omega, by omega, by omega⟩
    refine h2.foreign (F := fun _ => False) (Keeps.refl _ _) (fun _ h => h.elim) fun k hk => ?_
    rcases hk with rfl | hk
    · exact ⟨.inl rfl, hx2⟩
    · cases hk
  have HL2 := Lib.hid hL2
  have HT2 : Hid (TH [] []) := Lib.hid ⟨(fun e he => nomatch he), (fun x hx => nomatch hx), fun nm => Nat.zero_le _⟩
  clear h2 hw2 hx2 hb2 hB0 hL2 HNew
  go_upto_block 0 with fail
  go_cut [7, 8] from 27 to 156 (fun s7 s8 wx => ∃ (es : List EN) (ent : List Int) (oa : Option Addr) (oc : Nat), s7 = .slice oa ent.length oc ∧ s8 = .int .i64 (handF ent) ∧ ent.length ≤ 400 ∧ LX w B0 tb sb lb xb (.slice oa ent.length oc) (chainT 600 es) (upN es.length) ent ent wx)
  case first =>
    go_wp2_with fail
    go_loopw [7, 8, 9] (fun s7 s8 i wr => ∃ (k : Nat) (es : List EN) (ent : List Int) (oa : Option Addr) (oc : Nat), k ≤ lst.length ∧ k ≤ 200 ∧ i = .int .i64 k ∧ s7 = .slice oa ent.length oc ∧ s8 = .int .i64 (handF ent) ∧ es.length ≤ 2 * k ∧ ent.length ≤ 2 * k ∧ TH es ent ∧ LX w B0 tb sb lb xb (.slice oa ent.length oc) (chainT 600 es) (upN es.length) ent ent wr) (fun _ _ i _ => lst.length - (intOf i).toNat)
    case atStart => exact ⟨0, [], [], none, 0, Nat.zero_le _, Nat.zero_le _, rfl, rfl, rfl, Nat.le_refl _, Nat.le_refl _, HT2.out, HL2.out⟩
    case round =>
      obtain ⟨k, es, ent, oa, oc, hk, hk2, rfl, rfl, rfl, hes, hen, hth, hlx⟩ := hrel
      have HT := Lib.hid hth
      have HL := Lib.hid hlx
      clear hth hlx
      by_cases hlt : k < lst.length
      · by_cases h30 : k < 200
        · have d30 : ((k : Int) < 200) = True := by simp; omega
          go_upto_region 10 with fail
          try simp only [d30, decide_true]
          go_cut [46] from 37 to 45 (fun s46 wx => ∃ b : Bool, s46 = .bool b ∧ wr = wx)
          case first =>
            by_cases hkm : k < mks.length
            · obtain ⟨b, o, rfl, e1⟩ := (HM.out.below HL.out.below) k _ (boolsV_get mks k hkm)
              cases hq : mks[k]
              all_goals
                rw [hq] at e1
                go_wp2_with fail
                go_meet
                exact ⟨_, rfl, rfl⟩
            · go_wp2_with fail
              go_meet
              exact ⟨_, rfl, rfl⟩
          case rest =>
          obtain ⟨b, rfl, rfl⟩ := hcut
          go_upto_if 46 with fail
          go_cut [7, 8] from 47 to 56 (fun s7 s8 wx => ∃ (ent' : List Int) (oa' : Option Addr) (oc' : Nat), s7 = .slice oa' ent'.length oc' ∧ s8 = .int .i64 (handF ent') ∧ ent'.length ≤ 2 * k + 1 ∧ TH es ent' ∧ LX w B0 tb sb lb xb (.slice oa' ent'.length oc') (chainT 600 es) (upN es.length) ent' ent' wx)
          case first =>
            cases b with
            | false =>
              go_wp2_with fail
              go_meet
              exact ⟨ent, oa, oc, rfl, rfl, by omega, HT.out, HL.out⟩
            | true =>
              have HMk := Lib.hid (Mark_li HL.out.1 (by omega))
              obtain ⟨x0, x1, x2⟩ := HL.out.cells
              go_wp2_with fail
              refine HMk.out.mono ?_
              rintro e w4 ⟨rfl, h4, k4⟩
              have HL4 := Lib.hid (HL.out.call h4 k4)
              clear h4 k4 HMk
              have HL5 := Lib.hid (HL4.out.world ((Below.refl _ _).alloc (Nat.le_refl _) (.cells #[.int .i64 (-1)] 3)))
              have HN := Lib.hid (show At (w4.alloc (.cells #[.int .i64 (-1)] 3)) (some ⟨w4.heap.size, 0, none⟩) (intsV [-1]) from at_alloc rfl rfl)
              obtain ⟨i0, hi, hz0, hz1, hz2⟩ := info_parts stk_int
              have b0 : ent.length + 1 ≤ maxLen := by unfold maxLen; omega
              have b1 : (ent.length + 1) * 8 ≤ 140737488355328 := by omega
              have HB := Lib.hid HL5.out.2.2.2.2.2
              have HO5 := Lib.hid HL5.out.2.2.1
              go_wp2_with (at_builtin; go_must (refine wpList_append_lies _ rfl _ _ 32 rfl B0 3 i0 _ 1 8 Try.underlying32 hi hz0 hz1 hz2 rfl (by decide) _ ent.length (intsV ent) rfl HO5.out ⟨w4.heap.size, 0, none⟩ 1 1 (intsV [-1]) rfl rfl HN.out.news (intsV_one _) (by decide) b0 b1 HB.out (w4.heap.size + 1) (by simp) ?_; intro g2 cap2 w6 hown2 hgr2 hat2 hlt2; have HO := Lib.hid hown2; have HG := Lib.hid hgr2; have HAt := Lib.hid hat2; clear hown2 hgr2 hat2 hlt2))
              go_meet
              exact ⟨ent ++ [-1], some ⟨g2, 0, none⟩, cap2, by simp, by rw [hand_mark]; rfl, by simp; omega, HT.out.mark, HL5.out.push1 HO.out HG.out HAt.out (by simp)⟩
          case rest =>
          clear HL HT hen
          obtain ⟨ent', oa', oc', rfl, rfl, hen, hth, hlx⟩ := hcut
          have HT := Lib.hid hth
          have HL := Lib.hid hlx
          clear hth hlx
          obtain ⟨b', o, rfl, _, e1⟩ := str_cell (HA.out.below HL.out.below) hlt
          obtain ⟨x, hx⟩ : ∃ x, x = lst[k] := ⟨_, rfl⟩
          rw [← hx] at e1
          have HX := Lib.hid hx
          clear hx
          obtain ⟨x0, x1, x2⟩ := HL.out.cells
          have q1 : wc.drew.cell? ⟨b', o + k, none⟩ = some (.string x) := e1
          have q2 : wc.drew.cell? ⟨xb, 2, none⟩ = some (.pointer (some ⟨lb, 0, none⟩)) := x2
          have hbu : Below wc.heap.size wc (wc.drew.alloc (.cells #[.string (⟨#[97]⟩ : ByteArray), .string (⟨#[49]⟩ : ByteArray), .string (⟨#[98]⟩ : ByteArray), .string ⟨#[]⟩] 81)) := ((Below.refl wc.heap.size wc).drew).alloc (Nat.le_refl _) _
          have p1 := cell_later hbu e1
          have p2 := cell_later hbu x2
          have HE := Lib.hid ((HL.out.world hbu).ins (x := x) (at' := at1) (b := wc.heap.size) (by omega) rfl (at_alloc rfl rfl))
          go_upto_region 14 with fail
          go_region_held3 (fun u => u.cell? ⟨b', o + k, none⟩ = some (.string x) ∧ u.cell? ⟨xb, 2, none⟩ = some (.pointer (some ⟨lb, 0, none⟩)))
            (first | exact ⟨q1, q2⟩ | exact ⟨p1, p2⟩ | exact ⟨r1, r2⟩)
            (first | (go_at_call 37; go_must (refine HE.out.mono ?_; rintro e w4 ⟨rfl, h4⟩; have r2 := h4.cells.2.2; obtain ⟨_, _, he, _, r1⟩ := str_cell (HA.out.below h4.below) hlt; cases he; rw [← HX.out] at r1; have HL4 := Lib.hid h4; clear h4)))
          have HT4 := Lib.hid (HT.out.add (x, at1) (.inl rfl))
          have hes4 : (es ++ [(x, at1)]).length ≤ 2 * k + 1 := by simp; omega
          have hlen4 : (es ++ [(x, at1)]).length = es.length + 1 := by simp
          have HNm := Lib.hid (chain_last (most := 600) es (x, at1))
          clear HE HL HT q1 q2 p1 p2 hbu x0 x1 x2 e1
          go_upto_if 74 with fail
          generalize (bits BinOp.and IntKind.i64 (k : Int) 1 == 1) = bo
          go_cut [10, 11] from 75 to 89 (fun s10 s11 wx => s11 = .int .i64 0 ∧ ∃ es' : List EN, s10 = .int .i64 es'.length ∧ 1 ≤ es'.length ∧ es'.length ≤ 2 * k + 2 ∧ TH es' ent' ∧ nameQ (chainT 600 es') (es'.length : Nat) = x ∧ LX w B0 tb sb lb xb (.slice oa' ent'.length oc') (chainT 600 es') (upN es'.length) ent' ent' wx)
          case first =>
            cases bo with
            | false =>
              go_wp2_with fail
              go_meet
              exact ⟨rfl, es ++ [(x, at1)], by rw [hlen4]; rfl, by omega, by omega, HT4.out, HNm.out, HL4.out⟩
            | true =>
              obtain ⟨es4, he4⟩ : ∃ es4, es4 = es ++ [(x, at1)] := ⟨_, rfl⟩
              rw [← he4] at HL4 HT4 hes4 hlen4
              have q1 : w4.drew.cell? ⟨b', o + k, none⟩ = some (.string x) := r1
              have q2 : w4.drew.cell? ⟨xb, 2, none⟩ = some (.pointer (some ⟨lb, 0, none⟩)) := r2
              have hbu : Below w4.heap.size w4 (w4.drew.alloc (.cells #[.string (⟨#[98]⟩ : ByteArray), .string ⟨#[]⟩, .string (⟨#[97]⟩ : ByteArray), .string (⟨#[49]⟩ : ByteArray)] 81)) := ((Below.refl w4.heap.size w4).drew).alloc (Nat.le_refl _) _
              have p1 := cell_later hbu r1
              have p2 := cell_later hbu r2
              have HE := Lib.hid ((HL4.out.world hbu).ins (x := x) (at' := at2) (b := w4.heap.size) (by omega) rfl (at_alloc rfl rfl))
              have HT5 := Lib.hid (HT4.out.add (x, at2) (.inr rfl))
              have hlen5 : (es4 ++ [(x, at2)]).length = es4.length + 1 := by simp
              have HNm5 := Lib.hid (chain_last (most := 600) es4 (x, at2))
              clear HL4 HT4 HNm he4
              go_upto_region 16 with fail
              go_region_held3 (fun u => u.cell? ⟨b', o + k, none⟩ = some (.string x) ∧ u.cell? ⟨xb, 2, none⟩ = some (.pointer (some ⟨lb, 0, none⟩)))
                (first | exact ⟨q1, q2⟩ | exact ⟨p1, p2⟩ | exact ⟨t1, t2⟩)
                (first | (go_at_call 37; go_must (refine HE.out.mono ?_; rintro e w5 ⟨rfl, h5⟩; have t2 := h5.cells.2.2; obtain ⟨_, _, he, _, t1⟩ := str_cell (HA.out.below h5.below) hlt; cases he; rw [← HX.out] at t1; have HL5 := Lib.hid h5; clear h5)))
              go_wp2_with fail
              go_meet
              exact ⟨rfl, es4 ++ [(x, at2)], by rw [hlen5, hlen4]; rfl, by omega, by omega, HT5.out, HNm5.out, HL5.out⟩
          case rest =>
          clear HL4 HT4 HNm r1 r2 hes4 hlen4
          obtain ⟨rfl, es', rfl, hes1, hes', hth, hnx, hlx⟩ := hcut
          obtain ⟨h3, hpush, hfirst, hth', hhand⟩ := hth.push (n := ((es'.length : Nat) : Int)) ⟨by omega, by omega⟩
          rw [hnx] at h3 hpush hfirst
          have HPs := Lib.hid (Push_li hlx.1 (by omega) ((es'.length : Nat) : Int))
          have HL := Lib.hid hlx
          obtain ⟨x0, x1, x2⟩ := HL.out.cells
          have HTh := Lib.hid hth'
          have HPu := Lib.hid hpush
          have HFi := Lib.hid hfirst
          have HHa := Lib.hid hhand
          have hhl := (hand_spec ent').1
          clear hlx hth hnx hpush hfirst hth' hhand
          go_wp2_with fail
          refine HPs.out.mono ?_
          rintro e w6 ⟨rfl, h6, k6⟩
          have HL6 := Lib.hid (HL.out.call h6 k6)
          clear h6 k6 HPs HL x0 x1 x2
          go_wp2_with fail
          go_loopw [12, 13, 14] (fun s12 s13 s14 wr => ∃ m : Nat, handF ent' ≤ m ∧ m ≤ ent'.length ∧ s14 = .int .i64 ((m : Int) - 1) ∧ s12 = .int .i64 ((ixm (chainT 600 es') x ent' m ent'.length).length : Nat) ∧ s13 = .int .i64 (firstI (ixm (chainT 600 es') x ent' m ent'.length)) ∧ LX w B0 tb sb lb xb (.slice oa' ent'.length oc') (chainT 600 es') (upN es'.length) (pushF (chainT 600 es') ent' ((es'.length : Nat) : Int)) ent' wr) (fun _ _ s14 _ => (intOf s14 + 1).toNat)
          case atStart => exact ⟨ent'.length, hhl, Nat.le_refl _, by go_num, by rw [ixm_start _ _ _ _ _ (Nat.le_refl _)]; rfl, by rw [ixm_start _ _ _ _ _ (Nat.le_refl _)]; rfl, HL6.out⟩
          case round =>
            obtain ⟨m, hm1, hm2, rfl, rfl, rfl, hlm⟩ := hrel
            have HLm := Lib.hid hlm
            clear hlm
            by_cases hgt : handF ent' < m
            · obtain ⟨m', rfl⟩ : ∃ m', m = m' + 1 := ⟨m - 1, by omega⟩
              have hx1 : (((m' + 1 : Nat) : Int) - 1) = (m' : Int) := by omega
              rw [hx1]
              clear hx1
              obtain ⟨g, oc1, he, _, hoc1, hoc2⟩ := own_some HLm.out.2.2.1 (by omega)
              injection he with e1 _ e3
              subst e1 e3
              have hmlt : m' < ent'.length := by omega
              have hroc : oc' ≤ 9223372036854775807 := by unfold maxLen at hoc2; omega
              have o1 := (own_row HLm.out.2.2.1).cell (intsV_get ent' m' hmlt)
              obtain ⟨x0, x1, x2⟩ := HLm.out.cells
              have HWh := Lib.hid (What_li (HLm.out.world (stk_drewN wr 1)).1 ent'[m'])
              have hgd : ent'.getD m' 0 = ent'[m'] := by simp [List.getD, List.getElem?_eq_getElem hmlt]
              have HIx := Lib.hid (ixm_first (chainT 600 es') x ent' m' ent'.length hmlt)
              rw [hgd, pN] at HIx
              clear hgd
              have hM1 := ixm_len (chainT 600 es') x ent' (m' + 1) ent'.length
              have HM0 := Lib.hid (rfl : ixm (chainT 600 es') x ent' m' ent'.length = ixm (chainT 600 es') x ent' m' ent'.length)
              generalize hM1' : ixm (chainT 600 es') x ent' (m' + 1) ent'.length = M1 at *
              generalize ent'[m'] = y at *
              generalize spaceQ (chainT 600 es') y = ysp at *
              generalize nameQ (chainT 600 es') y = yn at *
              generalize attrsQ (chainT 600 es') y = yat at *
              have q0 : wr.drew.cell? ⟨xb, 0, none⟩ = some (.pointer (some ⟨tb, 0, none⟩)) := x0
              have q1 : wr.drew.cell? ⟨g, m', none⟩ = some (.int .i64 y) := o1
              go_upto_region 25 with fail
              go_region_held3 (fun u => u.cell? ⟨xb, 0, none⟩ = some (.pointer (some ⟨tb, 0, none⟩)) ∧ u.cell? ⟨g, m', none⟩ = some (.int .i64 y))
                (first | exact ⟨q0, q1⟩ | exact ⟨p0, p1⟩)
                (first | (go_at_call 43; go_must (refine HWh.out.mono ?_; rintro e w7 ⟨v7, rfl, _, hb7⟩; have p0 := cell_later hb7 q0; have p1 := cell_later hb7 q1; have HB7 := Lib.hid hb7; clear hb7)))
              have HL7 := Lib.hid ((HLm.out.world (stk_drewN wr 1)).world HB7.out)
              obtain ⟨b7, o7, he, _, s1⟩ := str_cell (HA.out.below HL7.out.below) hlt
              cases he
              rw [← HX.out] at s1
              clear HLm HWh HB7 q0 q1 p0 p1 o1 x0 x1 x2
              cases hq : (yn.toList == x.toList)
              · rw [hq] at HIx
                go_wp2_with fail
                go_roundw
                case rel => exact ⟨m', by omega, by omega, by go_num, by rw [HIx.out]; rfl, by rw [HIx.out]; rfl, HL7.out⟩
                case measure => simp [intOf]
              · rw [hq] at HIx
                go_wp2_with fail
                go_roundw
                case rel => exact ⟨m', by omega, by omega, by go_num, by rw [HIx.out]; simp, by rw [HIx.out]; rfl, HL7.out⟩
                case measure => simp [intOf]
            · obtain rfl : m = handF ent' := by omega
              generalize ixm (chainT 600 es') x ent' (handF ent') ent'.length = M at *
              go_upto_if 129 with fail
              go_cut [7, 12, 13] from 128 to 139 (fun s7 s12 s13 wx => s12 = .int .i64 (M.length : Nat) ∧ ∃ (own' : List Int) (oa2 : Option Addr) (oc2 : Nat), s7 = .slice oa2 own'.length oc2 ∧ pushF (chainT 600 es') ent' ((es'.length : Nat) : Int) = own' ++ [((es'.length : Nat) : Int)] ∧ own'.length ≤ 2 * k + 1 ∧ LX w B0 tb sb lb xb (.slice oa2 own'.length oc2) (chainT 600 es') (upN es'.length) (pushF (chainT 600 es') ent' ((es'.length : Nat) : Int)) own' wx)
              case first =>
                by_cases hM3 : M.length = 3
                · have d3 : ((M.length : Int) == 3) = true := by rw [beq_iff_eq]; omega
                  obtain ⟨i, hi, hil⟩ := HFi.out hM3
                  have HP := HPu.out
                  rw [if_pos hM3, hi] at HP
                  have HPq := Lib.hid HP
                  clear HP
                  obtain ⟨g, oc1, he, _, hoc1, hoc2⟩ := own_some HLm.out.2.2.1 (by omega)
                  injection he with e1 _ e3
                  subst e1 e3
                  unfold maxLen at hoc2
                  rw [hi]
                  have hio : i ≤ oc' := by omega
                  have hio1 : i + 1 ≤ oc' := by omega
                  have hil1 : i + 1 ≤ ent'.length := by omega
                  have hsz0 : wr.heap.size ≤ ((wr.alloc (.cells #[] 3)).drew).heap.size := by simp
                  have hbe : Below wr.heap.size wr ((wr.alloc (.cells #[] 3)).drew) := ((Below.refl _ _).alloc (Nat.le_refl _) _).drew
                  have HBE := Lib.hid hbe
                  have HRw := Lib.hid (own_row HLm.out.2.2.1)
                  have HE : Hid (((wr.alloc (.cells #[] 3)).drew).ownsRow wr.heap.size 3 1 (.slice (some ⟨wr.heap.size, 0, none⟩) 0 0) 0 []) := Lib.hid (own_drewN (World.ownsRow_lit wr #[] 0 (Nat.le_refl _) (Nat.zero_le _) rfl) 1)
                  have HAt1 : Hid (∀ u, Below wr.heap.size wr u → At u (some ⟨g, 0, none⟩) (intsV (ent'.take i))) := Lib.hid (fun u hu => by
                    have h := HRw.out.at
                    rw [← List.take_append_drop i ent', intsV_append] at h
                    exact h.left.below hu)
                  have HAt2 : Hid (∀ u, Below wr.heap.size wr u → At u (some ⟨g, i + 1, none⟩) (intsV (ent'.drop (i + 1)))) := Lib.hid (fun u hu j y hj => by
                    have hjj : (intsV ent')[i + 1 + j]? = some y := by rw [← hj, intsV, intsV, List.map_drop, List.getElem?_drop]
                    exact ⟨g, i + 1, rfl, by rw [← (HRw.out.below hu HRw.out.lt).cell hjj]⟩)
                  have HNL1 := Lib.hid (show (intsV (ent'.take i)).length = i * 1 by rw [intsV_length, Nat.mul_one, List.length_take]; omega)
                  have HNL2 := Lib.hid (show (intsV (ent'.drop (i + 1))).length = (ent'.length - (i + 1)) * 1 by rw [intsV_length, Nat.mul_one, List.length_drop])
                  have HER := Lib.hid (show ent'.eraseIdx i = ent'.take i ++ ent'.drop (i + 1) from List.eraseIdx_eq_take_drop_succ ..)
                  have HEL := Lib.hid (show (ent'.eraseIdx i).length = i + (ent'.length - (i + 1)) by rw [List.length_eraseIdx, if_pos hil]; omega)
                  obtain ⟨i0, hi0, hz0, hz1, hz2⟩ := info_parts stk_int
                  have b0 : 0 + i ≤ maxLen := by unfold maxLen; omega
                  have b1 : (0 + i) * 8 ≤ 140737488355328 := by omega
                  have c0 : i + (ent'.length - (i + 1)) ≤ maxLen := by unfold maxLen; omega
                  have c1 : (i + (ent'.length - (i + 1))) * 8 ≤ 140737488355328 := by omega
                  have hwr : IntKind.i64.wrap ((i : Int) + 1) = (i : Int) + 1 := by rw [IntKind.wrap_i64]; omega
                  have htn : ((i : Int) + 1).toNat = i + 1 := by omega
                  have hp1 : 0 ≤ (i : Int) + 1 := by omega
                  have hii : (i : Int) ≤ (i : Int) + 1 := by omega
                  have hiz : (i : Int) + 1 ≤ (ent'.length : Int) := by omega
                  go_upto_region 30 with fail
                  by_cases hcap : oc' = i + 1
                  · subst hcap
                    have HEL0 : Hid ((ent'.eraseIdx i).length = i) := Lib.hid (by rw [HEL.out]; omega)
                    have HER0 : Hid (ent'.eraseIdx i = ent'.take i) := Lib.hid (by rw [HER.out, List.drop_of_length_le (by omega), List.append_nil])
                    go_region_law (first
                      | (refine step_append_slice (by rfl) _ _ 32 (by rfl) wr.heap.size 3 i0 _ 1 8 Try.underlying32 hi0 hz0 hz1 hz2 rfl (by decide) _ 0 [] (by rfl) HE.out (some ⟨g, 0, none⟩) i (i + 1) (intsV (ent'.take i)) (by rfl) HNL1.out (fun h => by cases h) (HAt1.out _ HBE.out) (intsV_one _) b0 b1 hsz0 ?_; intro v8 w8 hown8 hgr8; simp only [Nat.zero_add, List.nil_append] at hown8; have HO8 := Lib.hid hown8; have HB8 := Lib.hid (HBE.out.grown hgr8 hsz0 (fun b h => (HE.out.lt b h).1)); have hs8 := HB8.out.size)
                      | (refine step_append_slice (by rfl) _ _ 32 (by rfl) wr.heap.size 3 i0 _ 1 8 Try.underlying32 hi0 hz0 hz1 hz2 rfl (by decide) _ i _ (by rfl) HO8.out (some ⟨g, 0, none⟩) 0 0 [] (by rfl) rfl (fun h => by cases h) (At.nil _ _) (fun _ h => by cases h) (by unfold maxLen; omega) (by omega) hs8 ?_; intro v9 w9 hown9 hgr9; have HO9 := Lib.hid hown9; have HB9 := Lib.hid (HB8.out.grown hgr9 hs8 (fun b h => (HO8.out.lt b h).1)); obtain ⟨a9, c9, rfl, _⟩ := own_slice hown9; clear hown9 hgr9))
                    all_goals
                      go_wp2_with fail
                      go_meet
                      exact ⟨by rw [hM3]; rfl, ent'.eraseIdx i, a9, c9, by rw [HEL0.out], HPq.out, by rw [HEL0.out]; omega, HLm.out.fresh HB9.out (by rw [HEL0.out, HER0.out]; have h := HO9.out; rw [Nat.add_zero, List.append_nil] at h; exact h)⟩
                  · go_region_law (first
                      | (refine step_append_slice (by rfl) _ _ 32 (by rfl) wr.heap.size 3 i0 _ 1 8 Try.underlying32 hi0 hz0 hz1 hz2 rfl (by decide) _ 0 [] (by rfl) HE.out (some ⟨g, 0, none⟩) i oc' (intsV (ent'.take i)) (by rfl) HNL1.out (fun h => by cases h) (HAt1.out _ HBE.out) (intsV_one _) b0 b1 hsz0 ?_; intro v8 w8 hown8 hgr8; simp only [Nat.zero_add, List.nil_append] at hown8; have HO8 := Lib.hid hown8; have HB8 := Lib.hid (HBE.out.grown hgr8 hsz0 (fun b h => (HE.out.lt b h).1)); have hs8 := HB8.out.size)
                      | (refine step_append_slice (by rfl) _ _ 32 (by rfl) wr.heap.size 3 i0 _ 1 8 Try.underlying32 hi0 hz0 hz1 hz2 rfl (by decide) _ i _ (by rfl) HO8.out (some ⟨g, i + 1, none⟩) (ent'.length - (i + 1)) (oc' - (i + 1)) (intsV (ent'.drop (i + 1))) (by rfl) HNL2.out (fun h => by cases h) (HAt2.out _ HB8.out) (intsV_one _) c0 c1 hs8 ?_; intro v9 w9 hown9 hgr9; have HO9 := Lib.hid hown9; have HB9 := Lib.hid (HB8.out.grown hgr9 hs8 (fun b h => (HO8.out.lt b h).1)); obtain ⟨a9, c9, rfl, _⟩ := own_slice hown9; clear hown9 hgr9))
                    all_goals
                      go_wp2_with fail
                      go_meet
                      exact ⟨by rw [hM3]; rfl, ent'.eraseIdx i, a9, c9, by rw [HEL.out], HPq.out, by rw [HEL.out]; omega, HLm.out.fresh HB9.out (by rw [HEL.out, HER.out, intsV_append]; exact HO9.out)⟩
                · have d3 : ((M.length : Int) == 3) = false := by rw [beq_eq_false_iff_ne]; omega
                  go_wp2_with fail
                  go_meet
                  exact ⟨rfl, ent', oa', oc', rfl, by rw [HPu.out, if_neg hM3], hen, HLm.out⟩
              case rest =>
              clear HLm HPu HFi
              obtain ⟨rfl, own', oa2, oc2, rfl, hpe, hol, hlo⟩ := hcut
              rw [hpe] at hlo HTh HHa
              have HL := Lib.hid hlo
              clear hlo hpe
              obtain ⟨n, hn⟩ : ∃ n, n = ((es'.length : Nat) : Int) := ⟨_, rfl⟩
              rw [← hn] at HL HTh HHa ⊢
              clear hn
              obtain ⟨en2, he2⟩ : ∃ en2, en2 = own' ++ [n] := ⟨_, rfl⟩
              have hl2 : en2.length = own'.length + 1 := by rw [he2]; simp
              have HL8 := Lib.hid (HL.out.world ((Below.refl _ _).alloc (Nat.le_refl _) (.cells #[.int .i64 n] 3)))
              have HN := Lib.hid (show At (wc.alloc (.cells #[.int .i64 n] 3)) (some ⟨wc.heap.size, 0, none⟩) (intsV [n]) from at_alloc rfl rfl)
              obtain ⟨i0, hi0, hz0, hz1, hz2⟩ := info_parts stk_int
              have b0 : own'.length + 1 ≤ maxLen := by unfold maxLen; omega
              have b1 : (own'.length + 1) * 8 ≤ 140737488355328 := by omega
              have HB := Lib.hid HL8.out.2.2.2.2.2
              have HO8 := Lib.hid HL8.out.2.2.1
              have d3 : decide ((3 : Int) < (M.length : Int)) = false := decide_eq_false (by omega)
              clear HL
              go_wp2_with (at_builtin; go_must (refine wpList_append_lies _ rfl _ _ 32 rfl B0 3 i0 _ 1 8 Try.underlying32 hi0 hz0 hz1 hz2 rfl (by decide) _ own'.length (intsV own') rfl HO8.out ⟨wc.heap.size, 0, none⟩ 1 1 (intsV [n]) rfl rfl HN.out.news (intsV_one _) (by decide) b0 b1 HB.out (wc.heap.size + 1) (by simp) ?_; intro g2 cap2 w9 hown2 hgr2 hat2 hlt2; have HL9 := Lib.hid (HL8.out.push1 hown2 hgr2 hat2 (by simp)); have HAll := Lib.hid (LAll_li HL9.out.1); obtain ⟨x0, x1, x2⟩ := HL9.out.cells; clear hown2 hgr2 hat2 hlt2))
              rw [← he2, hl2] at HAll
              rw [← he2] at HL9
              refine HAll.out.mono ?_
              rintro e w10 ⟨v10, rfl, ho10, hb10⟩
              obtain ⟨a10, c10, rfl, _, _, _, hat10⟩ := own_at ho10
              have HL10 := Lib.hid (HL9.out.world hb10)
              have HIn := Lib.hid (ints_any en2 en2 a10 (some ⟨g2, 0, none⟩) c10 cap2 w10 (by rw [hl2]; exact b0) hat10 (own_row HL10.out.2.2.1).at)
              rw [hl2] at HIn
              clear HAll HL9 HL8 HO8 HN hb10 ho10 hat10 x0 x1 x2 HB
              go_wp2_with (go_at_call 40; go_must (refine HIn.out.mono ?_; rintro e w11 ⟨rfl, q, rfl⟩))
              go_roundw
              case rel => exact ⟨k + 1, es', en2, some ⟨g2, 0, none⟩, cap2, by omega, by omega, by go_num, by rw [hl2], by rw [he2, HHa.out], by omega, by omega, by rw [he2]; exact HTh.out, HL10.out.world (stk_drewN w10 q)⟩
              case measure => simp [intOf]; omega
        · go_wp2_with fail
          go_meet
          exact ⟨es, ent, oa, oc, rfl, rfl, by omega, HL.out⟩
      · go_wp2_with fail
        go_meet
        exact ⟨es, ent, oa, oc, rfl, rfl, by omega, HL.out⟩
  case rest =>
  obtain ⟨es, ent, oa, oc, rfl, rfl, hen, hlx⟩ := hcut
  clear HL2 HT2 HA HM
  have HL := Lib.hid hlx
  have HC := Lib.hid (Clear_li hlx.1)
  obtain ⟨x0, x1, x2⟩ := hlx.cells
  clear hlx
  go_wp2_with fail
  refine HC.out.mono ?_
  rintro e w4 ⟨rfl, h4, k4⟩
  have HL4 := Lib.hid (HL.out.call h4 k4)
  clear h4 k4 HC HL x0 x1 x2
  obtain ⟨x0, x1, x2⟩ := HL4.out.cells
  have HAll := Lib.hid (LAll_li (HL4.out.world (stk_drewN w4 1)).1)
  obtain ⟨hh1, hh2⟩ := handF_le ent
  clear hh1
  have HP : Hid (clearF ent = ent.take (handF ent - 1)) := Lib.hid rfl
  generalize handF ent = hd at *
  obtain ⟨m, hm⟩ : ∃ m, m = hd - 1 := ⟨_, rfl⟩
  rw [← hm] at HP
  rw [HP.out] at HAll
  have hml : m ≤ ent.length := by omega
  have hmax : max (0 : Int) ((hd : Int) - 1) = (m : Int) := by omega
  have hw0 : IntKind.i64.wrap ((hd : Int) - 1) = (hd : Int) - 1 := by rw [IntKind.wrap_i64]; omega
  have hlm : (ent.take m).length = m := by rw [List.length_take]; omega
  rw [hlm] at HAll
  obtain ⟨_, _, he, hol, hom, hnil, hoat⟩ := own_at HL4.out.2.2.1
  injection he with e1 _ e3
  subst e1 e3
  have HOA : Hid (At w4 oa (intsV (ent.take m))) := Lib.hid (by
    rw [← List.take_append_drop m ent, intsV_append] at hoat
    exact hoat.left)
  have hmc : m ≤ oc := by omega
  have q2 : w4.drew.cell? ⟨xb, 2, none⟩ = some (.pointer (some ⟨lb, 0, none⟩)) := x2
  have hform : (oa = none ∧ oc = 0 ∧ ent.length = 0) ∨ ∃ g0, oa = some ⟨g0, 0, none⟩ := by
    rcases HL4.out.2.2.1.2 with ⟨he, h0⟩ | ⟨g0, cap, cur, he, _⟩
    · injection he with e1 e2 e3
      exact .inl ⟨e1, e3, h0⟩
    · injection he with e1 e2 e3
      exact .inr ⟨g0, e1⟩
  clear hoat hnil
  clear hm
  have hz1 : (0 : Int) ≤ (m : Int) := by omega
  have hz2 : (m : Int) ≤ (oc : Int) := by omega
  rcases hform with ⟨rfl, rfl, hen0⟩ | ⟨g0, rfl⟩
  · obtain rfl : hd = 0 := by omega
    obtain rfl : m = 0 := by have : ent.length = 0 := hen0; omega
    obtain rfl : ent = [] := List.eq_nil_of_length_eq_zero hen0
    have hw1 : IntKind.i64.wrap (-1) = -1 := by rw [IntKind.wrap_i64]; omega
    have hmax0 : max (0 : Int) (-1) = 0 := by omega
    clear hmax hw0
    go_upto_region 36 with fail
    go_region_held3 (fun u => u.cell? ⟨xb, 2, none⟩ = some (.pointer (some ⟨lb, 0, none⟩)))
      (first | exact q2 | exact p2 | exact t2)
      (first
        | (go_at_call 44; go_must (refine HAll.out.mono ?_; rintro e w5 ⟨v5, rfl, ho5, hb5⟩; obtain ⟨a5, c5, rfl, _, _, _, hat5⟩ := own_at ho5; have p2 := cell_later hb5 q2; have HB5 := Lib.hid (belowCall (stk_drewN w4 1) hb5); have HIn := Lib.hid (ints_any ([] : List Int) [] a5 none c5 0 w5 (by simp) hat5 (At.nil _ _)); clear ho5 hb5 hat5))
        | (go_at_call 40; go_must (refine HIn.out.mono ?_; rintro e w6 ⟨rfl, q, rfl⟩; have t2 : (w5.drewN q).cell? ⟨xb, 2, none⟩ = some (.pointer (some ⟨lb, 0, none⟩)) := p2)))
    all_goals
      go_wp2_with fail
      go_ret
      exact ⟨ret_bool (by simp), belowCall (belowCall HL4.out.below HB5.out) (stk_drewN w5 q)⟩
  · skip
    go_upto_region 36 with fail
    go_region_held3 (fun u => u.cell? ⟨xb, 2, none⟩ = some (.pointer (some ⟨lb, 0, none⟩)))
      (first | exact q2 | exact p2 | exact t2)
      (first
        | (go_at_call 44; go_must (refine HAll.out.mono ?_; rintro e w5 ⟨v5, rfl, ho5, hb5⟩; obtain ⟨a5, c5, rfl, _, _, _, hat5⟩ := own_at ho5; have p2 := cell_later hb5 q2; have HB5 := Lib.hid (belowCall (stk_drewN w4 1) hb5); have HIn := Lib.hid (ints_any (ent.take m) (ent.take m) a5 (some ⟨g0, 0, none⟩) c5 oc w5 (by rw [hlm]; unfold maxLen; omega) hat5 (HOA.out.below HB5.out)); clear ho5 hb5 hat5))
        | (go_at_call 40; go_must (rw [hlm] at HIn; refine HIn.out.mono ?_; rintro e w6 ⟨rfl, q, rfl⟩; have t2 : (w5.drewN q).cell? ⟨xb, 2, none⟩ = some (.pointer (some ⟨lb, 0, none⟩)) := p2)))
    all_goals
      go_wp2_with fail
      go_ret
      exact ⟨ret_bool (by simp), belowCall (belowCall HL4.out.below HB5.out) (stk_drewN w5 q)⟩
end Go.Proofs.Ytidbihdnginmcaa
