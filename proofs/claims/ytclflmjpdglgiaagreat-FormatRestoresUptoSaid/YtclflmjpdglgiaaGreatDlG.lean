/-
  Contracts: the document's list: an entry is written over; Restore. No conditions beyond those that each lemma types.
-/
import Derived.Test.YtclflmjpdglgiaaGreatDlF
import Derived.Test.YtclflmjpdglgiaaGreatResA
namespace Go.Proofs.YtclflmjpdglgiaaGreat
open Go.RowKit Mem

section
variable {w0 w w' : World} {B B' rb sb lb : Nat} {ex : Nat → Prop} {T T' : TreeD} {l l' ent ent' : List Int} {on on' : Bool}
/-- an entry is written over -/
theorem LD.set (h : LD w0 B rb sb lb ex T l ent on w) (k : Nat) (hk : k < ent.length) : ∃ g c, w.cell? ⟨lb, 0, none⟩ = some (.pointer (some ⟨rb, 0, none⟩)) ∧ w.cell? ⟨lb, 1, none⟩ = some (.pointer (some ⟨sb, 0, none⟩)) ∧ w.cell? ⟨lb, 2, none⟩ = some (.slice (some ⟨g, 0, none⟩) ent.length c) ∧ ent.length ≤ c ∧ c ≤ maxLen ∧ w.cell? ⟨g, k, none⟩ = some (.int .i64 ent[k]) ∧ w.frozen? ⟨g, k, none⟩ = false ∧ g ≠ lb ∧
    ∀ n, LD w0 B rb sb lb ex T l (ent.set k n) on (w.setCell ⟨g, k, none⟩ (.int .i64 n)) ∧ Keeps (Own w0 ex) w (w.setCell ⟨g, k, none⟩ (.int .i64 n)) := by
  obtain ⟨ge, h1, h2, h3, h4⟩ := h
  obtain ⟨a, c, c0, c1, c2, c3, hA, ho, _, _, hrow, _, hne⟩ := h1.cells
  obtain ⟨g, c', he, _, hc1, hc2⟩ := own_some ho.1 (by omega)
  injection he with e1 _ e3
  subst e1 e3
  have hgs : ge = some g := ho.2.symm
  refine ⟨g, c, c0, c1, c2, hc1, hc2, (own_row ho.1).cell (intsV_get ent k hk), ho.1.frozenAt _, (by rintro rfl; exact hne hgs), fun n => ?_⟩
  have hne1 : lb ≠ g := by rintro rfl; exact hne hgs
  have hl : LdO (w.setCell ⟨g, k, none⟩ (.int .i64 n)) lb rb sb ge (ent.set k n) on := by
    refine ⟨.slice (some ⟨g, 0, none⟩) ent.length c, (heap_setCell_other _ _ _ _ hne1).trans hrow, ⟨?_, hgs.symm⟩, hne⟩
    rw [List.length_set]
    exact ownrow_set ho.1 k n
  exact LD.lst_step h2 h3 (by rw [List.length_set]; exact h4) hl ((Keeps.refl _ _).set (p := ⟨g, k, none⟩) (.inl (.inr hgs)) _) (fun k hk => .inl hk)

set_option maxRecDepth 100000 in
set_option maxHeartbeats 8000000 in
theorem dRestore_ld (h : LD w0 B rb sb lb ex T l ent on w) (hle : l.length + ent.length < 1000000) (hen : ∀ x ∈ ent, x = -1 ∨ elemF T x = true) :
    Calls Tryz.prog 26 #[.pointer (some ⟨lb, 0, none⟩)] w fun e w' => e = .returned (.int .i64 (restL on ⟨T, l, ent⟩).2) ∧ LD w0 B rb sb lb ex (restL on ⟨T, l, ent⟩).1.T (restL on ⟨T, l, ent⟩).1.l (restL on ⟨T, l, ent⟩).1.ent on w' ∧ Keeps (Own w0 ex) w w' := by
  obtain ⟨sa, sc, c0, c1, c2, c3, hA, hcm, -⟩ := h.cells
  unfold maxLen at hcm
  have HA := Lib.hid hA
  have HL := Lib.hid h
  have HF := Lib.hid (fun u (hu : LD w0 B rb sb lb ex T l ent on u) x => dFind_ld hu x)
  have HB0 := Lib.hid (show begF l ent = begR l ent.reverse from rfl)
  have HBl := begF_le l ent
  have HEN : Hid (∀ i (hi : i < ent.length), begF l ent ≤ i → elemF T ent[i] = true) := Lib.hid (fun i hi hb => by
    have hs := (begF_spec l ent).1 i hi hb
    rcases hen _ (List.getElem_mem hi) with e | e
    · rw [stillB, e] at hs; simp at hs
    · exact e)
  have HR0 : Hid (restL on ⟨T, l, ent⟩ = restR on (ent.length - begF l ent) (begF l ent) ⟨T, l, ent⟩) := Lib.hid rfl
  obtain ⟨bg, hbg⟩ : ∃ bg, bg = begF l ent := ⟨_, rfl⟩
  rw [← hbg] at HB0 HBl HR0 HEN
  have HT0 := Lib.hid (show ent.take ent.length = ent from List.take_of_length_le (Nat.le_refl _))
  clear h hbg hA hen
  go_enter Tryz.func26, Tryz.ntmps26
  go_wp2_with fail
  go_loopw [3, 4] (fun b i wr => ∃ (k y : Nat), k ≤ ent.length ∧ i = .int .i64 k ∧ b = .int .i64 y ∧ y = begR l (ent.take k).reverse ∧ ∃ q, wr = w.drewN q) (fun _ i _ => ent.length - (intOf i).toNat)
  case atStart => exact ⟨0, 0, Nat.zero_le _, rfl, rfl, rfl, 0, rfl⟩
  case round =>
    obtain ⟨k, y, hk, rfl, rfl, hy, q0, rfl⟩ := hrel
    have HY := Lib.hid hy
    have HLr := Lib.hid (HL.out.world (stk_drewN w q0))
    have d1 : (w.drewN q0).cell? ⟨lb, 1, none⟩ = some (.pointer (some ⟨sb, 0, none⟩)) := c1
    have d2 : (w.drewN q0).cell? ⟨lb, 2, none⟩ = some (.slice sa ent.length sc) := c2
    have hq := HA.out.below (stk_drewN w q0)
    have hdd : ∀ m, (w.drewN q0).drewN m = w.drewN (q0 + m) := fun m => drewN_two _ _ _
    have HDD := Lib.hid hdd
    clear hy hdd
    by_cases hlt : k < ent.length
    · obtain ⟨b, o, rfl, e1⟩ := hq _ _ (intsV_get ent k hlt)
      have HST := Lib.hid (begR_step l ent k hlt)
      have HS := Lib.hid (show stillB l ent[k] = (decide (ent[k] = -1) || decide (0 ≤ rfind l ent[k])) from rfl)
      obtain ⟨x, hx⟩ : ∃ x, x = ent[k] := ⟨_, rfl⟩
      rw [← hx] at e1 HST HS
      generalize w.drewN q0 = wr at *
      clear hx hq c0 c1 c2 c3
      by_cases h1 : x = -1
      · have he : (x == -1) = true := by simpa using h1
        have HS2 : Hid (stillB l x = true) := Lib.hid (by rw [HS.out, decide_eq_true h1]; rfl)
        clear h1
        go_wp2_with fail
        go_quiet (fail)
        go_wp2_with fail
        go_roundw
        case rel => exact ⟨k + 1, k + 1, by omega, by go_num, (by first | rfl | go_num), by rw [HST.out, HS2.out, if_pos rfl], _, HDD.out _⟩
        case measure => simp [intOf]; omega
      · have he : (x == -1) = false := by simpa using h1
        have HS2 : Hid (stillB l x = decide (0 ≤ rfind l x)) := Lib.hid (by rw [HS.out, decide_eq_false h1]; rfl)
        have HFx := Lib.hid (fun u hu => HF.out u hu x)
        generalize rfind l x = p at *
        clear h1
        by_cases hp : 0 ≤ p
        · rw [decide_eq_true hp] at HS2
          go_wp2_with fail
          go_quiet ((go_at_call 63; exact (HFx.out _ (HLr.out.world (stk_drewN _ _))).mono fun e w' ⟨he, hw⟩ => ⟨he, _, hw.symm⟩))
          go_wp2_with fail
          go_roundw
          case rel => exact ⟨k + 1, k + 1, by omega, by go_num, (by first | rfl | go_num), by rw [HST.out, HS2.out, if_pos rfl], _, HDD.out _⟩
          case measure => simp [intOf]; omega
        · rw [decide_eq_false hp] at HS2
          go_wp2_with fail
          go_quiet ((go_at_call 63; exact (HFx.out _ (HLr.out.world (stk_drewN _ _))).mono fun e w' ⟨he, hw⟩ => ⟨he, _, hw.symm⟩))
          go_wp2_with fail
          go_roundw
          case rel => exact ⟨k + 1, y, by omega, by go_num, rfl, by rw [HST.out, HS2.out, HY.out]; rfl, _, HDD.out _⟩
          case measure => simp [intOf]; omega
    · obtain rfl : k = ent.length := by omega
      have HY2 : Hid (y = bg) := Lib.hid (by rw [HY.out, HT0.out, HB0.out])
      have HKc := Lib.hid (Keeps.ofBelow (F := Own w0 ex) (stk_drewN w q0))
      generalize w.drewN q0 = wq at *
      clear c0 c1 c2 c3 hq HL HT0 HB0 hcm HF HA
      obtain rfl := HY2.out
      clear HY HY2
      go_wp2_with fail
      go_loopw [5] (fun i wr => ∃ (k : Nat) (S : AS), y ≤ k ∧ k ≤ ent.length ∧ i = .int .i64 k ∧ Hid (LD w0 B rb sb lb ex S.T S.l S.ent on wr) ∧ Hid (Keeps (Own w0 ex) w wr) ∧ Hid (restL on ⟨T, l, ent⟩ = restR on (ent.length - k) k S) ∧ S.ent.length = ent.length ∧ S.l.length ≤ l.length + k ∧ Hid (∀ i (hi : i < S.ent.length), k ≤ i → elemF S.T S.ent[i] = true)) (fun i _ => ent.length - (intOf i).toNat)
      case atStart => exact ⟨y, ⟨T, l, ent⟩, Nat.le_refl _, HBl, rfl, HLr, HKc, HR0, rfl, by simp, HEN⟩
      case round =>
        obtain ⟨k, S, hk1, hk2, rfl, HLr, HKr, HV, hse, hsl, HEL⟩ := hrel
        obtain ⟨T1, l1, e1⟩ := S
        simp only at HLr HV hse hsl HEL ⊢
        obtain ⟨sa1, sc1, g0, g1, g2, g3, hA, hcm, hcl⟩ := HLr.out.cells
        unfold maxLen at hcm
        by_cases hlt : k < ent.length
        · obtain ⟨r, hr⟩ : ∃ r, ent.length - k = r + 1 := ⟨ent.length - k - 1, by omega⟩
          have hlt1 : k < e1.length := by omega
          obtain ⟨b, o, rfl, f1⟩ := hA _ _ (intsV_get e1 k hlt1)
          have hgd : e1.getD k 0 = e1[k] := by simp [List.getD, List.getElem?_eq_getElem hlt1]
          have HV2 := HV
          rw [hr, restR] at HV2
          simp only [hgd] at HV2
          have hel := HEL.out k hlt1 (Nat.le_refl _)
          obtain ⟨i, hi, hx, h1i, hie⟩ := elemF_nat hel
          rw [hx] at hel f1
          simp only [hx] at HV2
          obtain ⟨s1, s2, s3⟩ := what_of hi hel
          simp only [s1, s2, s3] at HV2
          obtain ⟨gn, gk, far, hR⟩ := HLr.out.ref
          obtain ⟨capn, capk, p1, p2, p3, p4, r0, r1, _, _, _, _⟩ := hR.head
          obtain ⟨aa, ac, hn0, ka1, hAt, d0, d1, d2, d3, d4, d5⟩ := hR.node6 (T := farW far T1) (i := i) hi
          have hlA : T1.nodes[i].attrs.length ≤ 1048576 := HLr.out.att _ (List.getElem_mem hi)
          have d0' : wr.cell? ⟨gn, i * 6, none⟩ = some (.bool true) := d0.trans (congrArg (fun b => some (Value.bool b)) hie)
          have d1' : wr.cell? ⟨gn, i * 6 + 1, none⟩ = some (.int .i64 T1.nodes[i].space) := d1
          have d2' : wr.cell? ⟨gn, i * 6 + 2, none⟩ = some (.string T1.nodes[i].name) := d2
          have d3' : wr.cell? ⟨gn, i * 6 + 3, none⟩ = some (.slice aa T1.nodes[i].attrs.length ac) := d3
          have d4' : wr.cell? ⟨gn, i * 6 + 4, none⟩ = some (.string T1.nodes[i].text) := d4
          have d5' : wr.cell? ⟨gn, i * 6 + 5, none⟩ = some (.int .i64 T1.nodes[i].parent) := d5
          have r0' : wr.cell? ⟨rb, 0, none⟩ = some (.slice (some ⟨gn, 0, none⟩) T1.nodes.length capn) := r0
          have p1' : T1.nodes.length ≤ capn := p1
          have hAA : At wr aa (pairsV T1.nodes[i].attrs) := hAt.at
          unfold maxLen at p2
          have hl1 : l1.length < 1000000 := by omega
          have HIn := Lib.hid (fun u (hu : LD w0 B rb sb lb ex T1 l1 e1 on u) (ha : At u aa (pairsV T1.nodes[i].attrs)) => dInsert_ld hu hl1 T1.nodes[i].space T1.nodes[i].name T1.nodes[i].attrs _ aa ac rfl hn0 hlA ha)
          have HIl := Lib.hid (insertL_len T1 l1 on T1.nodes[i].space T1.nodes[i].name T1.nodes[i].attrs)
          have HIm := Lib.hid (insertL_mor T1 l1 on T1.nodes[i].space T1.nodes[i].name T1.nodes[i].attrs)
          have hHR := Lib.hid hr
          have HAA := Lib.hid hAA
          rw [hse] at g2
          have hbA := (Below.refl wr.heap.size wr).alloc (Nat.le_refl _) (.cells #[.bool false, .int .i64 0, .string ⟨#[]⟩, .slice none 0 0, .string ⟨#[]⟩, .int .i64 0] 88)
          clear hA hx hgd hr HV hie s1 s2 s3 hel hAt d0 d1 d2 d3 d4 d5 r0 r1 p1 hR hAA p3 p4 hn0
          generalize T1.nodes[i].attrs = xa at *
          generalize T1.nodes[i].space = xs at *
          generalize T1.nodes[i].name = xn at *
          generalize T1.nodes[i].text = xt at *
          generalize T1.nodes[i].parent = xp at *
          generalize insertL T1 l1 on xs xn xa = q at *
          obtain ⟨T2, l2, n2, er⟩ := q
          simp only at HV2 HIn HIl HIm
          have a0 := cell_later hbA g0
          have a2 := cell_later hbA g2
          have af := cell_later hbA f1
          have ar := cell_later hbA r0'
          have b0 := cell_later hbA d0'
          have b1 := cell_later hbA d1'
          have b2 := cell_later hbA d2'
          have b3 := cell_later hbA d3'
          have b4 := cell_later hbA d4'
          have b5 := cell_later hbA d5'
          clear hbA
          go_upto_region 10 with fail
          go_cut [6] from 53 to 68 (fun s6 wx => s6 = .pointer (some ⟨wr.heap.size, 0, none⟩) ∧ wx = (wr.alloc (.cells #[.bool true, .int .i64 xs, .string xn, .slice aa xa.length ac, .string xt, .int .i64 xp] 88)).drew)
          case first =>
            go_region_law (fail)
            all_goals go_wp2_with fail
            all_goals go_meet
            all_goals exact ⟨rfl, rfl⟩
          case rest =>
          obtain ⟨rfl, hwc⟩ := hcut
          subst hwc
          have hX : ((wr.alloc (.cells #[.bool true, .int .i64 xs, .string xn, .slice aa xa.length ac, .string xt, .int .i64 xp] 88)).drew).heap[wr.heap.size]? = some (.cells #[.bool true, .int .i64 xs, .string xn, .slice aa xa.length ac, .string xt, .int .i64 xp] 88 (0, 0)) := heap_alloc_new wr _
          have hbW := ((Below.refl wr.heap.size wr).alloc (Nat.le_refl _) (.cells #[.bool true, .int .i64 xs, .string xn, .slice aa xa.length ac, .string xt, .int .i64 xp] 88)).drew
          have HBW := Lib.hid hbW
          have HI2 := Lib.hid (HIn.out _ (HLr.out.world hbW) (HAA.out.below hbW))
          obtain ⟨⟨_, u1, u2, u3, _, _⟩, _⟩ := cells6r hX
          clear a0 a2 af ar b0 b1 b2 b3 b4 b5 hX hbW HIn g0 g1 g2 g3 f1 d0' d1' d2' d3' d4' d5' r0'
          generalize (wr.alloc (.cells #[.bool true, .int .i64 xs, .string xn, .slice aa xa.length ac, .string xt, .int .i64 xp] 88)).drew = wq2 at *
          by_cases h0 : er = 0
          · rw [if_pos h0] at HV2
            subst h0
            have HSE : Hid ((e1.set k n2).length = ent.length) := Lib.hid (by rw [List.length_set]; exact hse)
            have HE2 : Hid (∀ i (hi : i < (e1.set k n2).length), k + 1 ≤ i → elemF T2 (e1.set k n2)[i] = true) := Lib.hid (fun i hi hki => by
              have hi' : i < e1.length := by rw [List.length_set] at hi; exact hi
              rw [List.getElem_set_ne (by omega)]
              exact HIm.out.2.2 _ (HEL.out i hi' (by omega)))
            go_wp2_with (go_at_call 56; go_must (refine HI2.out.mono ?_; rintro e w3 ⟨rfl, h3, k3⟩; have K3 := Lib.hid ((HKr.out.trans (Keeps.ofBelow (F := Own w0 ex) HBW.out)).trans k3); obtain ⟨gS, cS, z0, z1, z2, z3, z4, z5, z6, z7, z8⟩ := h3.set k hlt1; rw [hse] at z2 z3; have HS8 := Lib.hid (z8 n2); unfold maxLen at z4; clear h3 k3 z8))
            go_roundw
            case rel => exact ⟨k + 1, ⟨T2, l2, e1.set k n2⟩, by omega, by omega, by go_num, Lib.hid HS8.out.1, Lib.hid (K3.out.trans HS8.out.2), Lib.hid (by rw [HV2.out]; congr 1; have := hHR.out; omega), HSE.out, by have := HIl.out; show l2.length ≤ _; omega, HE2⟩
            case measure => simp [intOf]; omega
          · rw [if_neg h0] at HV2
            have he' : (er != 0) = true := by simpa using h0
            clear h0
            go_wp2_with (go_at_call 56; go_must (refine HI2.out.mono ?_; rintro e w3 ⟨rfl, h3, k3⟩; have H3 := Lib.hid h3; have K3 := Lib.hid ((HKr.out.trans (Keeps.ofBelow (F := Own w0 ex) HBW.out)).trans k3); clear h3 k3))
            go_ret
            rw [HV2.out]
            exact ⟨rfl, H3.out, K3.out⟩
        · obtain rfl : k = ent.length := by omega
          have HE : Hid (restL on ⟨T, l, ent⟩ = (⟨T1, l1, e1⟩, 0)) := Lib.hid (by rw [HV.out, Nat.sub_self]; rfl)
          rw [hse] at g2
          clear hA
          go_wp2_with fail
          go_ret
          rw [HE.out]
          exact ⟨rfl, HLr.out, HKr.out⟩
end
end Go.Proofs.YtclflmjpdglgiaaGreat
