/-
  Contract: the document's list: Adopt. No conditions beyond those that each lemma types.
-/
import Derived.Test.YtclflmjpdglgiaaGreatDlI
import Derived.Test.YtclflmjpdglgiaaGreatInvA
namespace Go.Proofs.YtclflmjpdglgiaaGreat
open Go.RowKit Mem

theorem rfind_take_in {l : List Int} {f : Int} {p m : Nat} (hp : rfind l f = p) (hm : p < m) : rfind (l.take m) f = p := by
  rcases Nat.lt_or_ge m l.length with h | h
  · have h1 := rfind_parts l m (by omega) f
    rw [hp] at h1
    split at h1
    · omega
    · exact h1.symm
  · rw [List.take_of_length_le h]; exact hp
theorem rfind_take_out {l : List Int} {f : Int} {p m : Nat} (hp : rfind l f = p) (hc : l.count f ≤ 1) (hm : m ≤ p) : rfind (l.take m) f < 0 := by
  rw [← mem_none]
  intro h
  have hs := rfind_spec l f
  have hpl : p < l.length := by omega
  have hf : l[p] = f := hs.2.2.2 p hpl hp
  have h1 : 0 < (l.take p).count f := by
    refine List.count_pos_iff.2 ?_
    have : (l.take m).Sublist (l.take p) := by
      rw [show l.take m = (l.take p).take m by rw [List.take_take, Nat.min_eq_left hm]]
      exact List.take_sublist _ _
    exact this.subset h
  rw [← List.take_append_drop p l, List.drop_eq_getElem_cons hpl, hf, List.count_append, List.count_cons_self] at hc
  omega
theorem special_none {sp : Int} {nm : ByteArray} (h : (nm.toList == []) = true) : specialF sp nm = false := by
  have h0 : nm.toList = [] := by simpa using h
  have hw : ∀ l : List ByteArray, isW l nm = l.any fun x => ([] : List UInt8) == x.toList := fun l => by rw [isW, h0]
  unfold specialF
  rw [hw mathNames, hw svgNames14, hw voidNames, hw specNames, show (mathNames.any fun x => ([] : List UInt8) == x.toList) = false from by kernel_rfl, show (svgNames14.any fun x => ([] : List UInt8) == x.toList) = false from by kernel_rfl,
    show (voidNames.any fun x => ([] : List UInt8) == x.toList) = false from by kernel_rfl, show (specNames.any fun x => ([] : List UInt8) == x.toList) = false from by kernel_rfl]
  simp
theorem blockR_step2 (T : TreeD) (l : List Int) (k : Nat) (h : k < l.length) : blockR T (l.drop k) = if specialF (spaceQ T l[k]) (nameQ T l[k]) then l[k] else blockR T (l.drop (k + 1)) := by
  rw [blockR_step T l k h]
  cases hn : ((nameQ T l[k]).toList == [])
  · simp
  · rw [special_none hn]; simp

section
variable {w0 w w' : World} {B B' rb sb lb : Nat} {ex : Nat → Prop} {T T' : TreeD} {l l' ent ent' : List Int} {on on' : Bool}
set_option maxRecDepth 100000 in
set_option maxHeartbeats 16000000 in
theorem dAdopt_ld (h : LD w0 B rb sb lb ex T l ent on w) (name : ByteArray) (hl : l.length + 10 < 1000000) (he : ent.length + 20 < 1000000) (hI : FI T l ent) :
    Calls Tryz.prog 25 #[.pointer (some ⟨lb, 0, none⟩), .string name] w fun e w' =>
      e = .returned (.tuple #[.bool (adoptL on name ⟨T, l, ent⟩).2.1, .int .i64 (adoptL on name ⟨T, l, ent⟩).2.2]) ∧ LD w0 B rb sb lb ex (adoptL on name ⟨T, l, ent⟩).1.T (adoptL on name ⟨T, l, ent⟩).1.l (adoptL on name ⟨T, l, ent⟩).1.ent on w' ∧ Keeps (Own w0 ex) w w' := by
  obtain ⟨-, -, c0, c1, -⟩ := h.cells
  have HL := Lib.hid h
  have HI := Lib.hid hI
  have HTop := Lib.hid (dTop_ld h)
  have HNm : Hid (∀ u, LD w0 B rb sb lb ex T l ent on u → Calls Tryz.prog 61 #[.pointer (some ⟨sb, 0, none⟩), .int .i64 (l.getLast?.getD 0), .slice (some ⟨u.heap.size, 0, none⟩) 1 1] (u.alloc (.cells #[.string name] 9)) fun e w' => e = .returned (.bool (namedF T (l.getLast?.getD 0) [name])) ∧ Below u.heap.size u w') := Lib.hid (fun u hu => dnamed1_ld hu _ name)
  have HFe : Hid (∀ u, LD w0 B rb sb lb ex T l ent on u → Calls Tryz.prog 62 #[.pointer (some ⟨lb, 0, none⟩), .int .i64 (l.getLast?.getD 0)] u fun e w' => e = .returned (.int .i64 (rfind ent (l.getLast?.getD 0))) ∧ u = w') := Lib.hid (fun u hu => at_ld hu _)
  have HPop : Hid (∀ u, LD w0 B rb sb lb ex T l ent on u → Calls Tryz.prog 32 #[.pointer (some ⟨sb, 0, none⟩)] u fun e w' => e = .returned (.int .i64 (l.getLast?.getD 0)) ∧ LD w0 B rb sb lb ex T l.dropLast ent on w' ∧ Keeps (Own w0 ex) u w') := Lib.hid (fun u hu => dPop_ld hu)
  have HA : Hid (adoptL on name ⟨T, l, ent⟩ = if namedF T (l.getLast?.getD 0) [name] && decide (rfind ent (l.getLast?.getD 0) < 0) then (⟨T, l.dropLast, ent⟩, true, 0) else adoptR on name 8 0 ⟨T, l, ent⟩) := Lib.hid rfl
  generalize l.getLast?.getD 0 = top at *
  generalize rfind ent top = rt at *
  clear h hI
  obtain ⟨cnd, hcnd⟩ : ∃ cnd, cnd = (namedF T top [name] && decide (rt < 0)) := ⟨_, rfl⟩
  rw [← hcnd] at HA
  go_enter Tryz.func25, Tryz.ntmps25
  obtain ⟨nm, hnm⟩ : ∃ nm, nm = namedF T top [name] := ⟨_, rfl⟩
  rw [← hnm] at HNm hcnd
  clear hnm
  go_upto_region 3 with (first
    | (go_at_call 60; go_must (refine HTop.out.mono ?_; rintro e w1 ⟨rfl, q, rfl⟩; have H1 := Lib.hid (HL.out.world (stk_drewN w q)); have KB1 := Lib.hid (stk_drewN w q); have d1 := (show (w.drewN q).cell? ⟨lb, 1, none⟩ = some (.pointer (some ⟨sb, 0, none⟩)) from c1); have HN1 := Lib.hid (HNm.out _ H1.out)))
    | (go_at_call 61; go_must (refine HN1.out.mono ?_; rintro e w2 ⟨rfl, hb2⟩; have KB2 := Lib.hid (belowCall KB1.out hb2); have HF2 := Lib.hid (HFe.out _ (H1.out.world hb2)); clear hb2)))
  go_cut [36] from 30 to 36 (fun s36 wx => s36 = .bool cnd ∧ wx = w2)
  case first =>
    cases nm
    · have hc2 : cnd = false := hcnd
      clear hcnd
      subst hc2
      go_wp2_with fail
      go_meet
      exact ⟨rfl, rfl⟩
    · have hc2 : cnd = decide (rt < 0) := hcnd
      clear hcnd
      subst hc2
      go_wp2_with (go_at_call 62; go_must (refine HF2.out.mono ?_; rintro e w4 ⟨rfl, rfl⟩))
      go_meet
      exact ⟨rfl, rfl⟩
  case rest =>
  obtain ⟨rfl, hwc⟩ := hcut
  subst hwc
  have HBc := KB2
  have HLc := Lib.hid (HL.out.world HBc.out)
  have d0 := cell_later HBc.out c0
  have d1 := cell_later HBc.out c1
  have HPc := Lib.hid (HPop.out _ HLc.out)
  clear hcnd HTop HNm HFe HL c0 c1 HPop H1 HN1 HF2 KB1 KB2
  cases cnd
  · have HA2 : Hid (adoptL on name ⟨T, l, ent⟩ = adoptR on name 8 0 ⟨T, l, ent⟩) := Lib.hid (by rw [HA.out]; rfl)
    clear HA HPc
    go_wp2_with fail
    go_loopw [8] (fun s8 wr => ∃ (t : Nat) (S : AS), t ≤ 8 ∧ s8 = .int .i64 t ∧ Hid (LD w0 B rb sb lb ex S.T S.l S.ent on wr) ∧ Hid (Keeps (Own w0 ex) w wr) ∧ Hid (adoptR on name 8 0 ⟨T, l, ent⟩ = adoptR on name (8 - t) t S) ∧ Hid (S.l.length ≤ l.length + t ∧ S.ent.length ≤ ent.length + t) ∧ Hid (FI S.T S.l S.ent)) (fun s8 _ => 8 - (intOf s8).toNat)
    case atStart => exact ⟨0, ⟨T, l, ent⟩, by omega, rfl, HLc, Lib.hid (Keeps.ofBelow HBc.out), Lib.hid rfl, Lib.hid ⟨Nat.le_refl _, Nat.le_refl _⟩, HI⟩
    case round =>
      obtain ⟨t, S, ht, rfl, HLr, HKr, HV, HS, HIr⟩ := hrel
      obtain ⟨T1, l1, e1⟩ := S
      simp only at HLr HV HS HIr ⊢
      obtain ⟨-, -, g0, g1, -⟩ := HLr.out.cells
      by_cases hlt : t < 8
      · obtain ⟨r, hr⟩ : ∃ r, 8 - t = r + 1 := ⟨7 - t, by omega⟩
        have HFi := Lib.hid (dFindN_ld HLr.out name)
        have HR : Hid (adoptR on name 8 0 ⟨T, l, ent⟩ = if findF T1 e1 name = 0 then (⟨T1, l1, e1⟩, decide (0 < t), 0)
          else if rfind l1 (findF T1 e1 name) < 0 then (⟨T1, l1, rmF e1 (findF T1 e1 name)⟩, true, 0)
          else if hasNodeF T1 l1 (findF T1 e1 name) = false then (⟨T1, l1, e1⟩, true, 0)
          else if blockF T1 l1 (findF T1 e1 name) = 0 then (⟨T1, l1.take (rfind l1 (findF T1 e1 name)).toNat, rmF e1 (findF T1 e1 name)⟩, true, 0)
          else if (turnL T1 l1 e1 on (findF T1 e1 name) (blockF T1 l1 (findF T1 e1 name))).2.2.2 = 0 then
            adoptR on name r (t + 1) ⟨(turnL T1 l1 e1 on (findF T1 e1 name) (blockF T1 l1 (findF T1 e1 name))).1, (turnL T1 l1 e1 on (findF T1 e1 name) (blockF T1 l1 (findF T1 e1 name))).2.1, (turnL T1 l1 e1 on (findF T1 e1 name) (blockF T1 l1 (findF T1 e1 name))).2.2.1⟩
          else (⟨(turnL T1 l1 e1 on (findF T1 e1 name) (blockF T1 l1 (findF T1 e1 name))).1, (turnL T1 l1 e1 on (findF T1 e1 name) (blockF T1 l1 (findF T1 e1 name))).2.1, (turnL T1 l1 e1 on (findF T1 e1 name) (blockF T1 l1 (findF T1 e1 name))).2.2.1⟩, false, (turnL T1 l1 e1 on (findF T1 e1 name) (blockF T1 l1 (findF T1 e1 name))).2.2.2)) := Lib.hid (by rw [HV.out, hr]; rfl)
        have HMem := Lib.hid (fun h : findF T1 e1 name ≠ 0 => findF_mem h)
        have hHR := Lib.hid hr
        clear HV hr
        generalize findF T1 e1 name = f at *
        by_cases hf : f = 0
        · rw [if_pos hf] at HR
          subst hf
          go_wp2_with (go_at_call 35; go_must (refine HFi.out.mono ?_; rintro e w2 ⟨rfl, hb2⟩; have H2 := Lib.hid (HLr.out.world hb2); have K2 := Lib.hid (HKr.out.trans (Keeps.ofBelow hb2)); clear hb2))
          go_ret2
          rw [HA2.out, HR.out]
          refine ⟨?_, H2.out, K2.out⟩
          simp
        rw [if_neg hf] at HR
        have hf' : (f == 0) = false := by simpa using hf
        have HM := Lib.hid (HMem.out hf)
        clear HMem hf
        have HSF := Lib.hid (fun u (hu : LD w0 B rb sb lb ex T1 l1 e1 on u) => dFind_ld hu f)
        have HHN := Lib.hid (fun u (hu : LD w0 B rb sb lb ex T1 l1 e1 on u) => dHasNode_ld hu f)
        have HRs := Lib.hid (rfind_spec l1 f)
        obtain ⟨p, hp⟩ : ∃ p, p = rfind l1 f := ⟨_, rfl⟩
        obtain ⟨hn, hhn⟩ : ∃ hn, hn = hasNodeF T1 l1 f := ⟨_, rfl⟩
        rw [← hp] at HR HSF HRs
        rw [← hhn] at HR HHN
        have HPE := Lib.hid hp
        clear hp hhn
        by_cases hr0 : p < 0
        · rw [if_pos hr0] at HR
          have hp0 : ¬ (0 : Int) ≤ p := by omega
          have hpd : decide ((0 : Int) ≤ p) = false := decide_eq_false hp0
          go_wp2_with (first
            | (go_at_call 35; go_must (refine HFi.out.mono ?_; rintro e w2 ⟨rfl, hb2⟩; have j0 := cell_later hb2 g0; have j1 := cell_later hb2 g1; have H2 := Lib.hid (HLr.out.world hb2); have K2 := Lib.hid (HKr.out.trans (Keeps.ofBelow hb2)); have HSF2 := Lib.hid (HSF.out _ H2.out); have HHN2 := Lib.hid (HHN.out _ H2.out); clear hb2))
            | (go_at_call 63; go_must (refine HSF2.out.mono ?_; rintro e w3 ⟨rfl, rfl⟩))
            | (go_at_call 64; go_must (refine HHN2.out.mono ?_; rintro e w4 ⟨rfl, hb4⟩; have HRm := Lib.hid (dRemove_ld (H2.out.world hb4) f); have K4 := Lib.hid (K2.out.trans (Keeps.ofBelow hb4)); clear hb4)))
          refine HRm.out.mono ?_
          rintro e w5 ⟨rfl, h5, k5⟩
          have H5 := Lib.hid h5
          have K5 := Lib.hid (K4.out.trans k5)
          clear h5 k5
          go_wp2_with fail
          go_ret2
          rw [HA2.out, HR.out]
          exact ⟨rfl, H5.out, K5.out⟩
        rw [if_neg hr0] at HR
        have hp0 : (0 : Int) ≤ p := by omega
        have hpd : decide ((0 : Int) ≤ p) = true := decide_eq_true hp0
        cases hn
        · rw [if_pos rfl] at HR
          go_wp2_with (first
            | (go_at_call 35; go_must (refine HFi.out.mono ?_; rintro e w2 ⟨rfl, hb2⟩; have j0 := cell_later hb2 g0; have j1 := cell_later hb2 g1; have H2 := Lib.hid (HLr.out.world hb2); have K2 := Lib.hid (HKr.out.trans (Keeps.ofBelow hb2)); have HSF2 := Lib.hid (HSF.out _ H2.out); have HHN2 := Lib.hid (HHN.out _ H2.out); clear hb2))
            | (go_at_call 63; go_must (refine HSF2.out.mono ?_; rintro e w3 ⟨rfl, rfl⟩))
            | (go_at_call 64; go_must (refine HHN2.out.mono ?_; rintro e w4 ⟨rfl, hb4⟩; have H4 := Lib.hid (H2.out.world hb4); have K4 := Lib.hid (K2.out.trans (Keeps.ofBelow hb4)); clear hb4)))
          go_ret2
          rw [HA2.out, HR.out]
          exact ⟨rfl, H4.out, K4.out⟩
        · rw [if_neg (by simp)] at HR
          obtain ⟨pn, rfl⟩ := Int.eq_ofNat_of_zero_le hp0
          rw [show ((pn : Int)).toNat = pn from rfl] at HR
          have hpl : pn < l1.length := by have := HRs.out.2.1; omega
          have hll : l1.length < 1000000 := by have := HS.out.1; omega
          have hwl : IntKind.i64.wrap ((l1.length : Int) - 1) = (l1.length : Int) - 1 := by rw [IntKind.wrap_i64]; omega
          have HBE : Hid (blockF T1 l1 f = blockR T1 (l1.drop (pn + 1))) := Lib.hid (by
            rw [blockF, ← HPE.out, show ((pn : Int) + 1).toNat = pn + 1 by omega])
          have HTn : Hid (blockF T1 l1 f ≠ 0 → ∀ u, LD w0 B rb sb lb ex T1 l1 e1 on u → Calls Tryz.prog 67 #[.pointer (some ⟨lb, 0, none⟩), .int .i64 f, .int .i64 (blockF T1 l1 f)] u fun e w' =>
              e = .returned (.int .i64 (turnL T1 l1 e1 on f (blockF T1 l1 f)).2.2.2) ∧ LD w0 B rb sb lb ex (turnL T1 l1 e1 on f (blockF T1 l1 f)).1 (turnL T1 l1 e1 on f (blockF T1 l1 f)).2.1 (turnL T1 l1 e1 on f (blockF T1 l1 f)).2.2.1 on w' ∧ Keeps (Own w0 ex) u w') := Lib.hid (fun hb u hu =>
                dturn_ld hu f _ hll (by have := HS.out.2; omega) HM.out (by rw [← HPE.out]; omega) (blockF_above hb) HIr.out.eel (fun x hx => ⟨HIr.out.one x (by have := (elem_pos (HIr.out.lel x hx)).1; omega), HIr.out.lel x hx⟩))
          have HTl := Lib.hid (turnL_len T1 l1 e1 on f (blockF T1 l1 f))
          have HTf := Lib.hid (turnL_fi HIr.out on f (blockF T1 l1 f)).1
          obtain ⟨b, hb⟩ : ∃ b, b = blockF T1 l1 f := ⟨_, rfl⟩
          rw [← hb] at HR HTn HTl HTf HBE
          clear hb hr0
          go_wp2_with (first
            | (go_at_call 35; go_must (refine HFi.out.mono ?_; rintro e w2 ⟨rfl, hb2⟩; have j0 := cell_later hb2 g0; have j1 := cell_later hb2 g1; have H2 := Lib.hid (HLr.out.world hb2); have K2 := Lib.hid (HKr.out.trans (Keeps.ofBelow hb2)); have HSF2 := Lib.hid (HSF.out _ H2.out); have HHN2 := Lib.hid (HHN.out _ H2.out); clear hb2))
            | (go_at_call 63; go_must (refine HSF2.out.mono ?_; rintro e w3 ⟨rfl, rfl⟩))
            | (go_at_call 64; go_must (refine HHN2.out.mono ?_; rintro e w4 ⟨rfl, hb4⟩; have H4 := Lib.hid (H2.out.world hb4); have K4 := Lib.hid (K2.out.trans (Keeps.ofBelow hb4)); obtain ⟨-, -, i0, i1, -⟩ := H4.out.cells; obtain ⟨sa, sc, s0, s1, hsat, -, -, -, -, hscm⟩ := H4.out.stk; have HSA := Lib.hid hsat; unfold maxLen at hscm; clear hb4 hsat)))
          go_loopw [12, 13] (fun s12 s13 wr2 => ∃ (kk : Nat) (v : Int), pn + 1 ≤ kk ∧ kk ≤ l1.length ∧ s13 = .int .i64 ((kk : Int) - 1) ∧ s12 = .int .i64 v ∧ v = blockR T1 (l1.drop kk) ∧ Hid (Below w4.heap.size w4 wr2)) (fun _ s13 _ => (intOf s13 + 1).toNat)
          case atStart => exact ⟨l1.length, 0, by omega, Nat.le_refl _, rfl, rfl, by rw [List.drop_of_length_le (Nat.le_refl _)]; rfl, Lib.hid (Below.refl _ _)⟩
          case round =>
            obtain ⟨kk, v, hk1, hk2, rfl, rfl, hv, HB2⟩ := hrel
            have HVV := Lib.hid hv
            have Hr := Lib.hid (H4.out.world HB2.out)
            have HSFr := Lib.hid (HSF.out _ Hr.out)
            have x0 := cell_later HB2.out i0
            have x1 := cell_later HB2.out i1
            have y0 := cell_later HB2.out s0
            have y1 := cell_later HB2.out s1
            clear hv
            by_cases hkk : pn + 1 < kk
            · obtain ⟨j, rfl⟩ : ∃ j, kk = j + 1 := ⟨kk - 1, by omega⟩
              have hjl : j < l1.length := by omega
              have ej : ((j + 1 : Nat) : Int) - 1 = (j : Int) := by omega
              rw [ej]
              have hgt : (pn : Int) < (j : Int) := by omega
              have hwj : IntKind.i64.wrap ((j : Int) - 1) = (j : Int) - 1 := by rw [IntKind.wrap_i64]; omega
              obtain ⟨gb, go, rfl, hx⟩ := (HSA.out.below HB2.out) _ _ (intsV_get l1 j hjl)
              have hel := HIr.out.lel _ (List.getElem_mem hjl)
              have HST := Lib.hid (blockR_step2 T1 l1 j hjl)
              obtain ⟨i, hi, hxi, h1i, -⟩ := elemF_nat hel
              rw [hxi] at hel hx HST
              obtain ⟨q1, q2, -⟩ := what_of hi hel
              rw [q1, q2] at HST
              obtain ⟨gn, gk, far, hR⟩ := Hr.out.ref
              obtain ⟨capn, capk, p1, p2, -, -, r0, -, -, -, -, -⟩ := hR.head
              obtain ⟨aa, ac, -, -, -, -, n1, n2, -, -, -⟩ := hR.node6 (T := farW far T1) (i := i) hi
              have n1' : wr.cell? ⟨gn, i * 6 + 1, none⟩ = some (.int .i64 T1.nodes[i].space) := n1
              have n2' : wr.cell? ⟨gn, i * 6 + 2, none⟩ = some (.string T1.nodes[i].name) := n2
              have r0' : wr.cell? ⟨rb, 0, none⟩ = some (.slice (some ⟨gn, 0, none⟩) T1.nodes.length capn) := r0
              have p1' : T1.nodes.length ≤ capn := p1
              unfold maxLen at p2
              have HSp := Lib.hid (fun u => rSpecial_any T1.nodes[i].space T1.nodes[i].name u)
              generalize T1.nodes[i].space = sp at *
              generalize T1.nodes[i].name = xn at *
              clear n1 n2 r0 p1 hR hel hxi q1 q2
              obtain ⟨sb2, hsb2⟩ : ∃ z, z = specialF sp xn := ⟨_, rfl⟩
              rw [← hsb2] at HST HSp
              clear hsb2
              cases sb2
              all_goals
                go_wp2_with (go_at_call 63; go_must (refine HSFr.out.mono ?_; rintro e w3 ⟨rfl, rfl⟩))
                go_quiet ((go_at_call 66; exact (HSp.out _).mono fun e w' ⟨he, hw⟩ => ⟨he, _, hw.symm⟩))
                go_wp2_with fail
                go_roundw
                case rel => exact ⟨j, _, by omega, by omega, by go_num, rfl, by rw [HST.out]; first | exact HVV.out | rfl, Lib.hid (belowCall HB2.out (stk_drewN _ _))⟩
                case measure => simp [intOf]
            · obtain rfl : kk = pn + 1 := by omega
              have ekk : ((pn + 1 : Nat) : Int) - 1 = (pn : Int) := by omega
              rw [ekk]
              have HVB : Hid (v = b) := Lib.hid (by rw [HVV.out, HBE.out])
              obtain rfl := HVB.out
              have K5 := Lib.hid (K4.out.trans (Keeps.ofBelow HB2.out))
              clear HBE HVB HVV H4 K4 i0 i1 s0 s1 HSA
              by_cases hb0 : v = 0
              · rw [if_pos hb0] at HR
                subst hb0
                clear HTn HTl HTf
                obtain ⟨n0, hn0⟩ : ∃ n0, l1.length = pn + n0 := ⟨l1.length - pn, by omega⟩
                have HN0 := Lib.hid hn0
                clear hn0
                go_wp2_with (go_at_call 63; go_must (refine HSFr.out.mono ?_; rintro e w3 ⟨rfl, rfl⟩))
                go_loopg [] n0 (fun gk wx => Hid (gk ≤ n0 ∧ LD w0 B rb sb lb ex T1 (l1.take (pn + gk)) e1 on wx ∧ Keeps (Own w0 ex) w wx))
                case atStart => exact Lib.hid ⟨Nat.le_refl _, by rw [← HN0.out, List.take_of_length_le (Nat.le_refl _)]; exact Hr.out, K5.out⟩
                case round =>
                  have HX := hrel
                  clear hrel x0 x1 y0 y1 Hr K5 HLr HKr HFi HSFr
                  obtain ⟨-, -, v0, v1, -⟩ := HX.out.2.1.cells
                  have HFx := Lib.hid (dFind_ld HX.out.2.1 f)
                  cases gk with
                  | zero =>
                    have hlt0 := rfind_take_out (l := l1) (f := f) (p := pn) (m := pn + 0) HPE.out.symm (HIr.out.lnd f) (by omega)
                    generalize rfind (l1.take (pn + 0)) f = z at *
                    have hz : ¬ (0 : Int) ≤ z := by omega
                    have HRm := Lib.hid (dRemove_ld HX.out.2.1 f)
                    clear hlt0
                    go_wp2_with (go_at_call 63; go_must (refine HFx.out.mono ?_; rintro e w3 ⟨rfl, rfl⟩))
                    refine HRm.out.mono ?_
                    rintro e w8 ⟨rfl, h8, k8⟩
                    have H8 := Lib.hid h8
                    have K8 := Lib.hid (HX.out.2.2.trans k8)
                    clear h8 k8
                    go_wp2_with fail
                    go_ret2
                    rw [HA2.out, HR.out]
                    exact ⟨rfl, H8.out, K8.out⟩
                  | succ gk =>
                    have hin := rfind_take_in (l := l1) (f := f) (p := pn) (m := pn + (gk + 1)) HPE.out.symm (by omega)
                    rw [hin] at HFx
                    have hkl : pn + gk < l1.length := by have := HN0.out; have := HX.out.1; omega
                    have HPp := Lib.hid (dPop_ld HX.out.2.1)
                    have htl := take_last hkl
                    rw [show pn + (gk + 1) = pn + gk + 1 by omega, htl.2] at HPp
                    clear htl hin
                    go_wp2_with (go_at_call 63; go_must (refine HFx.out.mono ?_; rintro e w3 ⟨rfl, rfl⟩))
                    refine HPp.out.mono ?_
                    rintro e w7 ⟨rfl, h7, k7⟩
                    have H7 := Lib.hid h7
                    have K7 := Lib.hid (HX.out.2.2.trans k7)
                    clear h7 k7
                    go_wp2_with fail
                    go_roundg gk
                    case measure => omega
                    case rel => exact Lib.hid ⟨by have := HX.out.1; omega, H7.out, K7.out⟩
              · rw [if_neg hb0] at HR
                have hb0' : (v == 0) = false := by simpa using hb0
                have HTn2 := Lib.hid (HTn.out hb0 _ Hr.out)
                clear hb0 HTn
                generalize turnL T1 l1 e1 on f v = q at *
                obtain ⟨T2, l2, e2, er⟩ := q
                simp only at HR HTn2 HTl HTf
                by_cases her : er = 0
                · rw [if_pos her] at HR
                  subst her
                  go_wp2_with (first | (go_at_call 63; go_must (refine HSFr.out.mono ?_; rintro e w3 ⟨rfl, rfl⟩)) | (go_at_call 67; go_must (refine HTn2.out.mono ?_; rintro e w9 ⟨rfl, h9, k9⟩; have H9 := Lib.hid h9; have K9 := Lib.hid (K5.out.trans k9); clear h9 k9)))
                  go_roundw
                  case rel => exact ⟨t + 1, ⟨T2, l2, e2⟩, by omega, by go_num, H9, K9, Lib.hid (by rw [HR.out]; congr 1; have := hHR.out; omega), Lib.hid ⟨by have := HTl.out.1; have := HS.out.1; show l2.length ≤ _; omega, by have := HTl.out.2; have := HS.out.2; show e2.length ≤ _; omega⟩, HTf⟩
                  case measure => simp [intOf]; omega
                · rw [if_neg her] at HR
                  have her' : (er != 0) = true := by simpa using her
                  clear her
                  go_wp2_with (first | (go_at_call 63; go_must (refine HSFr.out.mono ?_; rintro e w3 ⟨rfl, rfl⟩)) | (go_at_call 67; go_must (refine HTn2.out.mono ?_; rintro e w9 ⟨rfl, h9, k9⟩; have H9 := Lib.hid h9; have K9 := Lib.hid (K5.out.trans k9); clear h9 k9)))
                  go_ret2
                  rw [HA2.out, HR.out]
                  exact ⟨rfl, H9.out, K9.out⟩
      · obtain rfl : t = 8 := by omega
        have HE : Hid (adoptR on name 8 0 ⟨T, l, ent⟩ = (⟨T1, l1, e1⟩, true, 0)) := Lib.hid (by rw [HV.out]; rfl)
        go_wp2_with fail
        go_ret2
        rw [HA2.out, HE.out]
        exact ⟨rfl, HLr.out, HKr.out⟩
  · have HA2 : Hid (adoptL on name ⟨T, l, ent⟩ = (⟨T, l.dropLast, ent⟩, true, 0)) := Lib.hid (by rw [HA.out]; rfl)
    go_wp2_with (go_at_call 32; go_must (refine HPc.out.mono ?_; rintro e w2 ⟨rfl, h2, k2⟩; have H2 := Lib.hid h2; have K2 := Lib.hid ((Keeps.ofBelow (F := Own w0 ex) HBc.out).trans k2); clear h2 k2))
    go_ret2
    rw [HA2.out]
    exact ⟨rfl, H2.out, K2.out⟩
end
end Go.Proofs.YtclflmjpdglgiaaGreat
