/-
  The walk of the law FormatRestores. No conditions beyond those that the lemma types.
-/
import Derived.Test.YtclflmjpdglgiaaGreatDmFG
import Derived.Test.YtclflmjpdglgiaaGreatInvB
namespace Go.Proofs.YtclflmjpdglgiaaGreat
open Go.RowKit Mem

/-- a step of the law, as it came in -/
structure OpF where
  kind : Int
  n : Int
  s : ByteArray
  p : Bool
  attrs : List Pair
def opfV (o : OpF) (aa : Option Addr) (ac : Nat) : List Value := [.int .i64 o.kind, .int .i64 o.n, .string o.s, .bool o.p, .slice aa o.attrs.length ac]
structure OpsF (w : World) (a : Option Addr) (l : List OpF) : Prop where
  ops : ∀ k (h : k < l.length), ∃ b o aa ac, a = some ⟨b, o, none⟩ ∧ (aa = none → ac = 0) ∧ At w aa (pairsV l[k].attrs) ∧ ∀ f v, (opfV l[k] aa ac)[f]? = some v → w.cell? ⟨b, o + k * 5 + f, none⟩ = some v

section
variable {w0 w w' : World} {B tb sb lb : Nat} {ex : Nat → Prop} {T : TreeD} {l ent : List Int} {on : Bool}
/-- new blocks become the law's own -/
theorem LI.lay (h : LI w0 B tb sb lb ex T l ent on w) (hb : Below w.heap.size w w') : LI w0 B tb sb lb (fun k => ex k ∨ (w.heap.size ≤ k ∧ k < w'.heap.size)) T l ent on w' :=
  h.foreign (F := fun _ => False) (Keeps.ofBelow hb) (fun _ h => h.elim) fun k hk => by
    rcases hk with hk | hk
    · exact ⟨.inl hk, Nat.lt_of_lt_of_le (h.exlt k hk) hb.size⟩
    · exact ⟨.inr hk.1, hk.2⟩
end
theorem root_fi (most : Int) : FI (⟨⟨[rootN], most, noFar⟩, [], []⟩ : AS).T (⟨⟨[rootN], most, noFar⟩, [], []⟩ : AS).l (⟨⟨[rootN], most, noFar⟩, [], []⟩ : AS).ent := FI.nil _

set_option maxRecDepth 100000 in
set_option maxHeartbeats 16000000 in
theorem law_FormatRestores (lst : List OpF) (a : Option Addr) (c : Nat) (_hll : lst.length ≤ 1048576) (hs : ∀ k (h : k < lst.length), lst[k].s.size ≤ 1048576 ∧ lst[k].attrs.length ≤ 1048576 ∧ -9223372036854775808 ≤ lst[k].n ∧ lst[k].n ≤ 9223372036854775807) {w : World} (ha : OpsF w a lst) :
    Calls Tryz.prog 3 #[.slice a lst.length c] w fun e w' => e = .returned (.bool true) ∧ Below w.heap.size w w' := by
  have HA := Lib.hid ha
  have HSZ := Lib.hid hs
  clear ha hs
  go_enter Tryz.func3, Tryz.ntmps3
  go_wp2_with fail
  refine (shown15_any w).mono ?_
  rintro e w1 ⟨rfl, hb1⟩
  have HB1 := Lib.hid hb1
  clear hb1
  have HBG := Lib.hid (begunx_any 2000 (by decide) w w1 HB1.out)
  go_wp2_with fail
  refine HBG.out.mono ?_
  rintro e w2 ⟨xb, tb, sb, lb, rb, qb, kb, rfl, h2, hx2⟩
  have HD2 := Lib.hid h2
  have HX2 := Lib.hid hx2
  clear h2 hx2 HB1 HBG
  go_upto_block 0 with fail
  go_cut [5] from 23 to 40 (fun s5 wx => ∃ (S : AS) (on : Bool) (Bd : Nat), Hid (DL w Bd Bd tb sb lb rb qb kb S on S on (fun k => k = xb) wx) ∧ Hid (WX xb tb sb lb kb wx) ∧ Hid (FI S.T S.l S.ent ∧ Lm 2000 S.T ∧ 1 ≤ S.T.nodes.length) ∧ S.ent.length ≤ 900 ∧ S.l.length ≤ 100000)
  case first =>
    go_wp2_with fail
    go_loopw [5] (fun s5 wr => ∃ (k : Nat) (S : AS) (on : Bool), k ≤ lst.length ∧ k ≤ 100 ∧ s5 = .int .i64 k ∧ Hid (DL w (k * 1048576) (k * 1048576) tb sb lb rb qb kb S on S on (fun k => k = xb) wr) ∧ Hid (WX xb tb sb lb kb wr) ∧ Hid (FI S.T S.l S.ent ∧ Lm 2000 S.T ∧ 1 ≤ S.T.nodes.length) ∧ S.ent.length ≤ 9 * k ∧ S.l.length ≤ 1000 * k) (fun s5 _ => lst.length - (intOf s5).toNat)
    case atStart => exact ⟨0, ⟨⟨[rootN], 2000, noFar⟩, [], []⟩, false, Nat.zero_le _, Nat.zero_le _, rfl, Lib.hid (by rw [Nat.zero_mul]; exact HD2.out), HX2, Lib.hid ⟨root_fi 2000, ⟨by simp, rfl⟩, by simp⟩, Nat.zero_le _, Nat.zero_le _⟩
    case round =>
      obtain ⟨k, S, on, hk, hk100, rfl, HDr, HXr, HFr, hen, hln⟩ := hrel
      by_cases hlt : k < lst.length
      · by_cases h100 : k < 100
        · obtain ⟨b, o, aa, ac, rfl, hnil, hat, hcell⟩ := HA.out.ops k hlt
          have hbw := HDr.out.below
          have d0 := cell_later hbw (hcell 0 _ rfl)
          have d1 := cell_later hbw (hcell 1 _ rfl)
          have d2 := cell_later hbw (hcell 2 _ rfl)
          have d3 := cell_later hbw (hcell 3 _ rfl)
          have d4 := cell_later hbw (hcell 4 _ rfl)
          rw [Nat.add_zero] at d0
          obtain ⟨z1, z2, z3, z4⟩ := HSZ.out k hlt
          have HDo := Lib.hid (does_any (B' := (k + 1) * 1048576) (C' := (k + 1) * 1048576) HDr.out HXr.out rfl HFr.out.1 lst[k].kind lst[k].n ⟨z3, z4⟩ lst[k].s lst[k].p lst[k].attrs aa lst[k].attrs.length ac rfl hnil z2 hat (by omega) HFr.out.2.2 (by omega) (by omega) (by omega) (by omega))
          clear hcell hat hnil hbw z1 z2 z3 z4
          generalize lst[k].attrs.length = na at *
          generalize lst[k].kind = kd at *
          generalize lst[k].n = xn at *
          generalize lst[k].s = xs at *
          generalize lst[k].p = xp at *
          go_wp2_with fail
          refine HDo.out.mono ?_
          rintro e w3 ⟨S', on', rfl, h3, hn3, k3⟩
          have HD3 := Lib.hid h3
          have HN3 := Lib.hid hn3
          have HX3 := Lib.hid (HXr.out.kept (L := fun k => k = xb) rfl k3)
          clear h3 hn3 k3
          go_wp2_with fail
          go_roundw
          case rel =>
            refine ⟨k + 1, S', on', by omega, by omega, by go_num, HD3, HX3, Lib.hid ⟨HN3.out.fi, HN3.out.lm _ HFr.out.2.1, Nat.le_trans HFr.out.2.2 HN3.out.mor.1⟩, ?_, ?_⟩
            · have := HN3.out.ent; omega
            · have := HN3.out.l; omega
          case measure => simp [intOf]; omega
        · go_wp2_with fail
          go_meet
          exact ⟨S, on, k * 1048576, HDr, HXr, HFr, by omega, by omega⟩
      · go_wp2_with fail
        go_meet
        exact ⟨S, on, k * 1048576, HDr, HXr, HFr, by omega, by omega⟩
  case rest =>
  obtain ⟨S, on, Bd, HDc, HXc, HFc, hen, hln⟩ := hcut
  obtain ⟨w3, hw3⟩ : ∃ u : World, u = wc := ⟨_, rfl⟩
  subst hw3
  obtain ⟨ex, hli, hexx⟩ := HDc.out.li
  have HLI := Lib.hid hli
  have HEX := Lib.hid (hexx xb rfl)
  obtain ⟨x0, x1, x2, -⟩ := HXc.out.cells
  clear hli hexx HDc HD2 HX2
  have HAl := Lib.hid (LAll_li HLI.out)
  go_wp2_with fail
  refine HAl.out.mono ?_
  rintro e w4 ⟨v4, rfl, ho4, hb4⟩
  obtain ⟨a4, c4, rfl, _, _, _, hat4⟩ := own_at ho4
  obtain ⟨ex2, hex2⟩ : ∃ e : Nat → Prop, e = fun k => ex k ∨ (w3.heap.size ≤ k ∧ k < w4.heap.size) := ⟨_, rfl⟩
  have hl4 := HLI.out.lay hb4
  rw [← hex2] at hl4
  have HLI4 := Lib.hid hl4
  have HA4 : Hid (AtF (Own w ex2) w4 a4 (intsV S.ent)) := Lib.hid (AtF.of_new hat4 (fun b o s hb => by
    subst hb
    have := ho4.lt b rfl
    exact fun hx => hx.2 (by rw [hex2]; exact .inr this)))
  have HEX2 := Lib.hid (show ex2 xb by rw [hex2]; exact .inl HEX.out)
  have HX4 := Lib.hid (HXc.out.below hb4)
  obtain ⟨y0, y1, y2, -⟩ := HX4.out.cells
  clear ho4 hb4 hat4 hl4 hex2 x0 x1 x2 HAl HLI HXc
  have HSA := Lib.hid (SAll_li HLI4.out)
  go_wp2_with fail
  refine HSA.out.mono ?_
  rintro e w5 ⟨v5, rfl, ho5, hb5⟩
  obtain ⟨a5, c5, rfl, _, _, _, _⟩ := own_at ho5
  have HLI5 := Lib.hid (HLI4.out.world hb5)
  have HA5 := Lib.hid (HA4.out.kept (Keeps.ofBelow hb5))
  have HX5 := Lib.hid (HX4.out.below hb5)
  obtain ⟨z0, z1, z2, -⟩ := HX5.out.cells
  clear ho5 hb5 y0 y1 y2 HSA HLI4 HA4 HX4
  have HBE := Lib.hid (show begF S.l S.ent = begR S.l S.ent.reverse from rfl)
  have HBl := begF_le S.l S.ent
  have HTT := Lib.hid (show S.ent.take S.ent.length = S.ent from List.take_of_length_le (Nat.le_refl _))
  have hw0 : IntKind.i64.wrap ((S.ent.length : Int) - 1) = (S.ent.length : Int) - 1 := by rw [IntKind.wrap_i64]; omega
  obtain ⟨bg, hbg⟩ : ∃ bg, bg = begF S.l S.ent := ⟨_, rfl⟩
  rw [← hbg] at HBE HBl
  have HBG := Lib.hid hbg
  clear hbg
  go_upto_block 2 with fail
  go_cut [9] from 54 to 78 (fun s9 wx => s9 = .int .i64 ((S.ent.length - bg : Nat) : Int) ∧ ∃ q, wx = w5.drewN q)
  case first =>
    go_wp2_with fail
    go_loopw [9, 10] (fun s9 s10 wr => ∃ (k m : Nat), k ≤ S.ent.length ∧ m + k = S.ent.length ∧ s10 = .int .i64 ((k : Int) - 1) ∧ s9 = .int .i64 m ∧ Hid (bg = begR S.l (S.ent.take k).reverse) ∧ ∃ q, wr = w5.drewN q) (fun _ s10 _ => (intOf s10 + 1).toNat)
    case atStart => exact ⟨S.ent.length, 0, Nat.le_refl _, by omega, rfl, rfl, Lib.hid (by rw [HTT.out, HBE.out]), 0, rfl⟩
    case round =>
      obtain ⟨k, m, hk, hmk, rfl, rfl, HV, q0, hwr⟩ := hrel
      have HDD := Lib.hid (show ∀ m, (w5.drewN q0).drewN m = w5.drewN (q0 + m) from fun m => drewN_two _ _ _)
      have e1 : (w5.drewN q0).cell? ⟨xb, 1, none⟩ = some (.pointer (some ⟨sb, 0, none⟩)) := z1
      have HLr := Lib.hid (HLI5.out.world (stk_drewN w5 q0))
      have hAr := HA5.out.at.below (stk_drewN w5 q0)
      rw [← hwr] at e1 HLr HDD hAr
      have HWR := Lib.hid hwr
      clear hwr
      cases k with
      | zero =>
        have hge : decide ((0 : Int) ≤ ((0 : Nat) : Int) - 1) = false := by decide
        have hge2 : ¬ ((0 : Int) ≤ -1) := by decide
        have hz : ((0 : Nat) : Int) - 1 = -1 := by omega
        have HM : Hid (m = S.ent.length - bg) := Lib.hid (by rw [HV.out]; show m = S.ent.length - 0; omega)
        rw [hz]
        rw [hz] at hge
        clear hAr
        go_wp2_with fail
        go_quiet (fail)
        go_wp2_with fail
        go_meet
        exact ⟨by rw [HM.out], _, by rw [HDD.out]⟩
      | succ j =>
        have hjl : j < S.ent.length := by omega
        have hz : ((j + 1 : Nat) : Int) - 1 = (j : Int) := by omega
        rw [hz]
        have hge : decide ((0 : Int) ≤ (j : Int)) = true := decide_eq_true (by omega)
        obtain ⟨b, o, rfl, ex0⟩ := hAr _ _ (intsV_get S.ent j hjl)
        have HST := Lib.hid (begR_step S.l S.ent j hjl)
        have HS := Lib.hid (show stillB S.l S.ent[j] = (decide (S.ent[j] = -1) || decide (0 ≤ rfind S.l S.ent[j])) from rfl)
        obtain ⟨x, hx⟩ : ∃ x, x = S.ent[j] := ⟨_, rfl⟩
        rw [← hx] at ex0 HST HS
        have HM2 := Lib.hid hmk
        clear hx hz
        by_cases h1 : x = -1
        · have he : (x != -1) = false := by simpa using h1
          have HS2 : Hid (stillB S.l x = true) := Lib.hid (by rw [HS.out, decide_eq_true h1]; rfl)
          have HM : Hid (m = S.ent.length - bg) := Lib.hid (by rw [HV.out, HST.out, HS2.out, if_pos rfl]; omega)
          clear h1
          go_wp2_with fail
          go_quiet (fail)
          go_wp2_with fail
          go_meet
          exact ⟨by rw [HM.out], _, by rw [HDD.out]⟩
        · have he : (x != -1) = true := by simpa using h1
          have HS2 : Hid (stillB S.l x = decide (0 ≤ rfind S.l x)) := Lib.hid (by rw [HS.out, decide_eq_false h1]; rfl)
          have HFx := Lib.hid (fun u (hu : LI w 0 tb sb lb ex2 S.T S.l S.ent on u ∨ LI w Bd tb sb lb ex2 S.T S.l S.ent on u) => (show Calls Tryz.prog 9 #[.pointer (some ⟨sb, 0, none⟩), .int .i64 x] u fun e w' => e = .returned (.int .i64 (rfind S.l x)) ∧ u = w' from hu.elim (fun h => SFind_li h x) (fun h => SFind_li h x)))
          generalize rfind S.l x = p at *
          clear h1
          by_cases hp : p < 0
          · have hpd : decide (p < 0) = true := decide_eq_true hp
            have hp0 : ¬ 0 ≤ p := by omega
            have HST2 : Hid (bg = begR S.l (S.ent.take j).reverse) := Lib.hid (by rw [HV.out, HST.out, HS2.out, decide_eq_false hp0]; rfl)
            clear hp0
            go_wp2_with fail
            go_quiet ((go_at_call 9; exact (HFx.out _ (.inr (HLr.out.world (stk_drewN _ _)))).mono fun e w' ⟨he, hw⟩ => ⟨he, _, hw.symm⟩))
            go_wp2_with fail
            go_roundw
            case rel => exact ⟨j, m + 1, by omega, by have := HM2.out; omega, by go_num, by go_num, HST2, _, by rw [HDD.out]⟩
            case measure => simp [intOf]
          · have hpd : decide (p < 0) = false := decide_eq_false hp
            have hp0 : 0 ≤ p := by omega
            have HM : Hid (m = S.ent.length - bg) := Lib.hid (by rw [HV.out, HST.out, HS2.out, decide_eq_true hp0, if_pos rfl]; have := HM2.out; omega)
            clear hp0
            go_wp2_with fail
            go_quiet ((go_at_call 9; exact (HFx.out _ (.inr (HLr.out.world (stk_drewN _ _)))).mono fun e w' ⟨he, hw⟩ => ⟨he, _, hw.symm⟩))
            go_wp2_with fail
            go_meet
            exact ⟨by rw [HM.out], _, by rw [HDD.out]⟩
  case rest =>
  obtain ⟨rfl, q6, hw6⟩ := hcut
  obtain ⟨w6, hw6e⟩ : ∃ u : World, u = wc := ⟨_, rfl⟩
  subst hw6e
  have HLI6 := Lib.hid (show LI w Bd tb sb lb ex2 S.T S.l S.ent on w6 by rw [hw6]; exact HLI5.out.world (stk_drewN _ _))
  have HA6 := Lib.hid (show AtF (Own w ex2) w6 a4 (intsV S.ent) by rw [hw6]; exact HA5.out.kept (Keeps.ofBelow (stk_drewN _ _)))
  have HX6 := Lib.hid (show WX xb tb sb lb kb w6 by rw [hw6]; exact HX5.out.below (stk_drewN _ _))
  obtain ⟨y0, y1, y2, -⟩ := HX6.out.cells
  clear hw6 HLI5 HA5 HX5 z0 z1 z2 HBE HTT
  have HLen6 := Lib.hid (Len_li HLI6.out)
  have HRs := Lib.hid (Restore_li HLI6.out (by omega))
  have HRF := Lib.hid (fun h => restL_full (S := S) (on := on) h HFc.out.2.1)
  have HRR := Lib.hid (fun h => restL_rst (S := S) (on := on) HFc.out.1 HFc.out.2.2 h)
  rw [← HBG.out] at HRR
  have hST : (⟨S.T, S.l, S.ent⟩ : AS) = S := rfl
  rw [hST] at HRs
  have HNL := Lib.hid HLI6.out.len
  clear hST
  generalize restL on S = q at *
  obtain ⟨R, er⟩ := q
  simp only at HRs HRF HRR
  go_wp2_with (go_at_call 10; go_must (refine HLen6.out.mono ?_; rintro e w7 ⟨rfl, rfl⟩))
  refine HRs.out.mono ?_
  rintro e w7 ⟨rfl, h7, k7⟩
  have HLI7 := Lib.hid h7
  have HA7 := Lib.hid (HA6.out.kept k7)
  have HX7 := Lib.hid (HX6.out.kept (L := ex2) HEX2.out k7)
  obtain ⟨z0, z1, z2, -⟩ := HX7.out.cells
  clear h7 k7 y0 y1 y2 HRs HLen6 HLI6 HA6 HX6
  by_cases her : er = 0
  · subst her
    have HR := Lib.hid (HRR.out rfl)
    have HNL7 := Lib.hid HLI7.out.len
    have HAl7 := Lib.hid (LAll_li HLI7.out)
    go_wp2_with fail
    refine HAl7.out.mono ?_
    rintro e w8 ⟨v8, rfl, ho8, hb8⟩
    obtain ⟨a8, c8, rfl, _, _, _, hat8⟩ := own_at ho8
    obtain ⟨ex3, hex3⟩ : ∃ e : Nat → Prop, e = fun k => ex2 k ∨ (w7.heap.size ≤ k ∧ k < w8.heap.size) := ⟨_, rfl⟩
    have hl8 := HLI7.out.lay hb8
    rw [← hex3] at hl8
    have HLI8 := Lib.hid hl8
    have HN8 : Hid (AtF (Own w ex3) w8 a8 (intsV R.ent)) := Lib.hid (AtF.of_new hat8 (fun b o s hb => by
      subst hb
      have := ho8.lt b rfl
      exact fun hx => hx.2 (by rw [hex3]; exact .inr this)))
    have HA8 := Lib.hid ((HA7.out.kept (Keeps.ofBelow hb8)).at)
    have HEX3 := Lib.hid (show ex3 xb by rw [hex3]; exact .inl HEX2.out)
    have HX8 := Lib.hid (HX7.out.below hb8)
    obtain ⟨y0, y1, y2, -⟩ := HX8.out.cells
    have hlen := HR.out.len
    have HLE := Lib.hid hlen
    rw [hlen]
    clear ho8 hb8 hat8 hl8 hex3 z0 z1 z2 HAl7 HLI7 HA7 HX7 hlen
    obtain ⟨ms, hms⟩ : ∃ ms, ms = S.ent.length - bg := ⟨_, rfl⟩
    have hbm : bg + ms = S.ent.length := by omega
    rw [← hms] at HR ⊢
    have HBM := Lib.hid hbm
    have hRl := HR.out.l
    have hRn := HR.out.nodes
    have hSA := SAll_li HLI8.out
    rw [hRl] at hSA
    have HSA8 := Lib.hid hSA
    have HLen8 : Hid (∀ {B' : Nat} {e' : Nat → Prop} u, LI w B' tb sb lb e' R.T R.l R.ent on u → Calls Tryz.prog 10 #[.pointer (some ⟨tb, 0, none⟩)] u fun e w' => e = .returned (.int .i64 ((S.T.nodes.length : Int) - 1 + ms)) ∧ u = w') := Lib.hid (fun u hu => by
      have := Len_li hu
      rw [hRn, show (((S.T.nodes.length + ms : Nat) : Int) - 1) = (S.T.nodes.length : Int) - 1 + ms by push_cast; omega] at this
      exact this)
    have hnl := HNL.out
    have hw1 : IntKind.i64.wrap ((S.l.length : Int) + (ms : Int)) = (S.l.length : Int) + (ms : Int) := by rw [IntKind.wrap_i64]; omega
    have hw2 : IntKind.i64.wrap ((S.T.nodes.length : Int) - 1 + (ms : Int)) = (S.T.nodes.length : Int) - 1 + (ms : Int) := by rw [IntKind.wrap_i64]; omega
    have hq1 : ((((S.l.length + ms : Nat)) : Int) != (S.l.length : Int) + (ms : Int)) = false := by simp
    clear hms hbm hRl hRn hSA hnl
    go_wp2_with (first
      | (go_at_call 8; go_must (refine HSA8.out.mono ?_; rintro e w9 ⟨v9, rfl, ho9, hb9⟩; obtain ⟨a9, c9, rfl, _, _, _, _⟩ := own_at ho9; have u0 := cell_later hb9 y0; have u1 := cell_later hb9 y1; have u2 := cell_later hb9 y2; have HLI9 := Lib.hid (HLI8.out.world hb9); have HA9 := Lib.hid (HA8.out.below hb9); have HN9 := Lib.hid (HN8.out.kept (Keeps.ofBelow hb9)); have HX9 := Lib.hid (HX8.out.below hb9); clear ho9 hb9))
      | (go_at_call 10; go_must (refine (HLen8.out _ HLI9.out).mono ?_; rintro e w10 ⟨rfl, rfl⟩)))
    clear y0 y1 y2 HLI8 HA8 HN8 HX8 HSA8
    have HLOW := Lib.hid HR.out.low
    have HHIGH := Lib.hid HR.out.high
    have HLen2 := Lib.hid HLE.out
    have hwb : IntKind.i64.wrap ((S.ent.length : Int) - (ms : Int)) = (bg : Int) := by rw [IntKind.wrap_i64]; have := HBM.out; omega
    go_loopw [13] (fun s13 wr => ∃ k : Nat, k ≤ S.ent.length ∧ s13 = .int .i64 k ∧ ∃ q, wr = w9.drewN q) (fun s13 _ => S.ent.length - (intOf s13).toNat)
    case atStart => exact ⟨0, Nat.zero_le _, rfl, 0, rfl⟩
    case round =>
      obtain ⟨k, hk, rfl, q0, hwr⟩ := hrel
      have HDD := Lib.hid (show ∀ m, (w9.drewN q0).drewN m = w9.drewN (q0 + m) from fun m => drewN_two _ _ _)
      have e1 : (w9.drewN q0).cell? ⟨xb, 1, none⟩ = some (.pointer (some ⟨sb, 0, none⟩)) := u1
      have HLr := Lib.hid (HLI9.out.world (stk_drewN w9 q0))
      have hAr := HA9.out.below (stk_drewN w9 q0)
      have hNr := HN9.out.kept (Keeps.ofBelow (stk_drewN w9 q0))
      have HXr := Lib.hid (HX9.out.below (stk_drewN w9 q0))
      rw [← hwr] at e1 HLr HDD hAr hNr HXr
      have HNr := Lib.hid hNr
      clear hwr
      by_cases hlt : k < S.ent.length
      · have hltR : k < R.ent.length := by have := HLE.out; omega
        obtain ⟨bn, on', rfl, en⟩ := hNr.at _ _ (intsV_get R.ent k hltR)
        obtain ⟨be, oe, rfl, ee⟩ := hAr _ _ (intsV_get S.ent k hlt)
        have HFx := Lib.hid (fun u (hu : LI w Bd tb sb lb ex3 R.T R.l R.ent on u) => SFind_li hu R.ent[k])
        by_cases hkb : k < bg
        · have hd1 : decide ((k : Int) < (bg : Int)) = true := decide_eq_true (by omega)
          have hd2 : decide ((bg : Int) ≤ (k : Int)) = false := decide_eq_false (by omega)
          have hee := HLOW.out k hltR hlt (by have := HBM.out; omega)
          rw [hee] at en
          generalize S.ent[k] = x at *
          have hxx : (x != x) = false := by simp
          have hkb2 : ¬ bg ≤ k := by omega
          clear hee hAr hNr HFx
          go_wp2_with fail
          go_quiet (fail)
          go_wp2_with fail
          go_roundw
          case rel => exact ⟨k + 1, by omega, by go_num, _, by rw [HDD.out]⟩
          case measure => simp [intOf]; omega
        · have hd1 : decide ((k : Int) < (bg : Int)) = false := decide_eq_false (by omega)
          have hd2 : decide ((bg : Int) ≤ (k : Int)) = true := decide_eq_true (by omega)
          have hf := HHIGH.out k hltR (by have := HBM.out; omega)
          rw [show S.ent.length - ms = bg by have := HBM.out; omega] at hf
          rw [hf] at HFx
          obtain ⟨z, hz⟩ : ∃ z : Int, z = ((S.l.length + (k - bg) : Nat) : Int) := ⟨_, rfl⟩
          rw [← hz] at HFx
          have hw3 : IntKind.i64.wrap ((S.l.length : Int) + (k : Int)) = (S.l.length : Int) + (k : Int) := by rw [IntKind.wrap_i64]; omega
          have hw4 : IntKind.i64.wrap ((S.l.length : Int) + (k : Int) - (bg : Int)) = z := by rw [IntKind.wrap_i64, hz]; omega
          generalize R.ent[k] = x at *
          have hzz : (z != z) = false := by simp
          have hkb2 : bg ≤ k := by omega
          clear hf hz hAr hNr ee
          go_wp2_with fail
          go_quiet ((go_at_call 9; exact (HFx.out _ (HLr.out.world (stk_drewN _ _))).mono fun e w' ⟨he, hw⟩ => ⟨he, _, hw.symm⟩))
          go_wp2_with fail
          go_roundw
          case rel => exact ⟨k + 1, by omega, by go_num, _, by rw [HDD.out]⟩
          case measure => simp [intOf]; omega
      · obtain rfl : k = S.ent.length := by omega
        have hRs := Restore_li HLr.out (by have := HR.out.l; have := HLE.out; have := HBM.out; omega)
        rw [show (⟨R.T, R.l, R.ent⟩ : AS) = R from rfl, HR.out.again] at hRs
        have HRs := Lib.hid hRs
        obtain ⟨t0, t1, t2, -⟩ := HXr.out.cells
        clear hRs hAr hNr e1
        go_wp2_with fail
        refine HRs.out.mono ?_
        rintro e w11 ⟨rfl, h11, k11⟩
        have HLI11 := Lib.hid h11
        have HN11 := Lib.hid (HNr.out.kept k11)
        have HX11 := Lib.hid (HXr.out.kept (L := ex3) HEX3.out k11)
        obtain ⟨v0, v1, v2, -⟩ := HX11.out.cells
        have hAl := LAll_li h11
        simp only [HLE.out] at hAl
        have HAl := Lib.hid hAl
        have hRml : R.ent.length ≤ maxLen := by unfold maxLen; have := HLE.out; omega
        have HIn : Hid (∀ (u : World) (b : Option Addr) (c' : Nat), At u b (intsV R.ent) → Below w11.heap.size w11 u → Calls Tryz.prog 12 #[.slice b S.ent.length c', .slice a8 S.ent.length c8] u fun e w' => e = .returned (.bool true) ∧ ∃ n, w' = u.drewN n) := Lib.hid (fun u b c' hb hu => by
          have := ints_any R.ent R.ent b a8 c' c8 u hRml hb (HN11.out.kept (Keeps.ofBelow hu)).at
          rw [HLE.out, decide_eq_true rfl] at this
          exact this)
        clear h11 k11 hAl t0 t1 t2 HRs HLr HNr HXr hRml
        go_wp2_with (first
          | (go_at_call 7; go_must (refine HAl.out.mono ?_; rintro e w12 ⟨v12, rfl, ho12, hb12⟩; obtain ⟨a12, c12, rfl, _, _, _, hat12⟩ := own_at ho12; have s0 := cell_later hb12 v0; have s1 := cell_later hb12 v1; have s2 := cell_later hb12 v2; have HLI12 := Lib.hid (HLI11.out.world hb12); have HI12 := Lib.hid (HIn.out _ a12 c12 hat12 hb12); clear ho12 hb12 hat12))
          | (go_at_call 12; go_must (refine HI12.out.mono ?_; rintro e w13 ⟨rfl, q13, rfl⟩; have HLI13 := Lib.hid (HLI12.out.world (stk_drewN w12 q13)); have r0 : (w12.drewN q13).cell? ⟨xb, 0, none⟩ = some (.pointer (some ⟨tb, 0, none⟩)) := s0))
          | (go_at_call 10; go_must (refine (HLen8.out _ HLI13.out).mono ?_; rintro e w14 ⟨rfl, rfl⟩)))
        have HBw := Lib.hid HLI13.out.below
        go_ret
        exact ⟨by simp, HBw.out⟩
  · have hne : (er != 0) = true := by simpa using her
    have HFull := Lib.hid (HRF.out her)
    have HLen7 := Lib.hid (Len_li HLI7.out)
    have hfl : (((R.T.nodes.length : Int) - 1) == 2000) = true := by rw [HFull.out]; rfl
    have HBw := Lib.hid HLI7.out.below
    clear her
    go_wp2_with (go_at_call 10; go_must (refine HLen7.out.mono ?_; rintro e w8 ⟨rfl, rfl⟩))
    go_ret
    exact ⟨rfl, HBw.out⟩
end Go.Proofs.YtclflmjpdglgiaaGreat
