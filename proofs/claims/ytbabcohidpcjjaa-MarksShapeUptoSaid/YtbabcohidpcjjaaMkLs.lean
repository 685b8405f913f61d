/-
  The walk of MarksShape: it returns true.
-/
import Derived.Test.YtbabcohidpcjjaaMkRS
import Derived.Test.YtbabcohidpcjjaaMkEv
import Derived.Deep.DeepCutAuto
namespace Go.Proofs.Ytbabcohidpcjjaa
open Go.RowKit Mem

theorem nm_nat {c : UInt8} (h : Nm c) : ¬ ((65 : Int) ≤ (c.toNat : Int) ∧ (c.toNat : Int) ≤ 90) ∧ ((c.toNat : Int) == 0) = false ∧ ((c.toNat : Int) == 13) = false := by
  obtain ⟨h1, h2, h3⟩ := h
  rw [UInt8.le_iff_toNat_le, UInt8.le_iff_toNat_le] at h1
  have e2 : c.toNat ≠ 0 := fun e => h2 (UInt8.toNat_inj.1 e)
  have e3 : c.toNat ≠ 13 := fun e => h3 (UInt8.toNat_inj.1 e)
  have e65 : (65 : UInt8).toNat = 65 := rfl
  have e90 : (90 : UInt8).toNat = 90 := rfl
  rw [e65, e90] at h1
  exact ⟨fun h => h1 ⟨by omega, by omega⟩, beq_eq_false_iff_ne.2 (by omega), beq_eq_false_iff_ne.2 (by omega)⟩
set_option maxRecDepth 100000 in
set_option maxHeartbeats 8000000 in
theorem law_MarksShape (s : ByteArray) (hs : s.size ≤ 1048576) (y : Int) (w : World) (hm : maxAt w y) :
    Calls Try.prog 4 #[.string s] w fun e w' => e = .returned (.bool true) ∧ Below w.heap.size w w' := by
  have HM := Lib.hid hm
  clear hm
  go_enter Try.func4, Try.ntmps4
  go_wp2_with fail
  refine (shown_any y w HM.out).mono ?_
  rintro r W1 ⟨rfl, hb⟩
  have HM1 := Lib.hid (max_below HM.out hb)
  have HB1 := Lib.hid hb
  clear hb
  dsimp only
  go_wp2_with fail
  refine (Marks_all s y W1 HM1.out (by omega)).mono ?_
  rintro r W2 ⟨h, hb⟩
  have HB2 := Lib.hid (belowCall HB1.out hb)
  have hok := marksF_ok s.toList
  have hsh := marksF_short s.toList
  generalize marksF s.toList = o at *
  clear hb
  rcases h with ⟨h1, h2, rfl⟩ | ⟨h1, v, L, rfl, h2, h3, h4⟩
  · have he := (hok.1.resolve_left h1).2
    clear hok hsh h2
    dsimp only
    rcases he with he | he
    · rw [he]
      go_wp2_with fail
      go_ret
      exact ⟨rfl, HB2.out⟩
    · rw [he]
      go_wp2_with fail
      go_ret
      exact ⟨rfl, HB2.out⟩
  · obtain ⟨ao, co, hv, -, -, h0, hat⟩ := own_at h3
    subst hv
    have HAT := Lib.hid hat
    have HAA := Lib.hid (ats_at h4 (fun p hp => (hok.2.1 p.1 (by rw [← h2]; exact List.mem_map_of_mem hp)).few))
    have HGM : Hid (∀ p ∈ L, GoodMark p.1 ∧ Short p.1) := fun p hp => ⟨hok.2.1 p.1 (by rw [← h2]; exact List.mem_map_of_mem hp), hsh p.1 (by rw [← h2]; exact List.mem_map_of_mem hp)⟩
    have HAP : Hid (Apart (L.map (·.1))) := by show Apart _; rw [h2]; exact hok.2.2
    have hln : L.length ≤ 9223372036854775807 := by obtain ⟨_, _, e, _, e2, _⟩ := own_at h3; cases e; unfold maxLen at e2; omega
    clear hok hsh h1 h2 h3 h4 hat h0
    dsimp only
    go_wp2_with fail
    go_loopg [6] (L.length) (fun g i wr => ∃ k : Nat, k ≤ L.length ∧ L.length - k ≤ g ∧ i = .int .i64 k ∧ Below w.heap.size w wr ∧ Below W2.heap.size W2 wr)
    case atStart => exact ⟨0, Nat.zero_le _, Nat.le_refl _, rfl, HB2.out, Below.refl _ _⟩
    case round =>
      obtain ⟨k, hk, hgk, rfl, hb1, hb2⟩ := hrel
      have HBr := Lib.hid hb1
      have HBs := Lib.hid hb2
      clear hb1 hb2
      by_cases hlt : k < L.length
      · obtain ⟨b, oo, rfl, hbw, x0, x1, x2, x3, x4⟩ := mark_cells (HAT.out.below HBs.out) hlt
        obtain ⟨sa, sc, hsl, hsn, hsat, hsl100⟩ := HAA.out L[k] (List.getElem_mem hlt)
        obtain ⟨hg, hsh⟩ := HGM.out L[k] (List.getElem_mem hlt)
        have HPREV : Hid (∀ j : Nat, j + 1 = k → L[k].1.kind = 1 → ∃ z : Int, z ≠ 1 ∧ wr.cell? ⟨b, oo + j * 5, none⟩ = some (.int .i64 z)) := fun j hj h1 => by
          obtain ⟨b', oo', he, -, y0, -⟩ := mark_cells (HAT.out.below HBs.out) (k := j) (by omega)
          cases he
          refine ⟨L[j].1.kind, fun e => HAP.out j L[j].1 L[k].1 (by rw [List.getElem?_map, List.getElem?_eq_getElem (by omega)]; rfl) (by subst hj; rw [List.getElem?_map, List.getElem?_eq_getElem hlt]; rfl) ⟨e, h1⟩, y0⟩
        generalize L[k] = p at *
        obtain ⟨⟨kd, nm, al, sf, tx⟩, sl⟩ := p
        simp only at x0 x1 x2 x3 x4 hsl hsat hsl100 HPREV
        subst hsl
        have HSA := Lib.hid (hsat.below HBs.out)
        have HG := Lib.hid hg
        have HSH := Lib.hid hsh
        clear hsat hg hsh
        obtain ⟨tg, htg⟩ : ∃ tg, tg = (kd == 2 || kd == 3) := ⟨_, rfl⟩
        have HTG := Lib.hid htg
        clear htg
        go_upto_region 9 with fail
        go_cut [8] from 35 to 183 (fun t wx => t = .bool tg ∧ wx = wr.alloc (.cells #[.int .i64 kd, .string (strB nm), .slice sa al.length sc, .bool sf, .string (strB tx)] 36))
        case first =>
          go_wp2_with fail
          · go_meet
            exact ⟨by simp [HTG.out, *], by simp [*]⟩
          · go_meet
            exact ⟨by simp [HTG.out, *], rfl⟩
        case rest =>
          obtain ⟨rfl, rfl⟩ := hcut
          go_upto_region 10 with fail
          go_cut [97] from 35 to 183 (fun t wx => t = .bool false ∧ wx = wr.alloc (.cells #[.int .i64 kd, .string (strB nm), .slice sa al.length sc, .bool sf, .string (strB tx)] 36))
          case first =>
            have hk5 : 1 ≤ kd ∧ kd ≤ 5 := HG.out.kind
            have hnm : (kd = 2 ∨ kd = 3) ↔ nm ≠ [] := HG.out.tag
            have htx : kd = 1 ↔ tx ≠ [] := HG.out.text
            have hon : kd ≠ 2 → al = [] ∧ sf = false := HG.out.only
            have ha8 : al.length ≤ 8 := HG.out.few
            have htg := HTG.out
            have hl1 : ∀ q : Str, q ≠ [] → (strB q).toList.isEmpty = false ∧ ¬ (strB q).toList = [] := fun q hq => by
              rw [toList_strB]; exact ⟨by cases q; exact absurd rfl hq; rfl, hq⟩
            have ha8' : ¬ (8 : Int) < (al.length : Int) := by omega
            have hem : (strB []).toList.isEmpty = true ∧ (strB []).toList = [] := ⟨by rw [toList_strB]; rfl, toList_strB _⟩
            rcases (show kd = 1 ∨ kd = 2 ∨ kd = 3 ∨ kd = 4 ∨ kd = 5 by omega) with rfl | rfl | rfl | rfl | rfl
            · obtain rfl : nm = [] := Classical.byContradiction fun h => absurd (hnm.2 h) (by decide)
              obtain ⟨rfl, rfl⟩ := hon (by decide)
              obtain rfl : tg = false := htg.trans (by decide)
              obtain ⟨q1, q2⟩ := hl1 tx (htx.1 rfl)
              obtain ⟨p1, p2⟩ := hem
              clear hnm htx hon hl1 htg ha8' ha8
              go_wp2_with fail
              go_meet
              exact ⟨rfl, rfl⟩
            · obtain rfl : tx = [] := Classical.byContradiction fun h => absurd (htx.2 h) (by decide)
              obtain rfl : tg = true := htg.trans (by decide)
              obtain ⟨q1, q2⟩ := hl1 nm (hnm.1 (.inl rfl))
              obtain ⟨p1, p2⟩ := hem
              clear hnm htx hon hl1 htg
              go_wp2_with fail
              go_meet
              exact ⟨rfl, rfl⟩
            · obtain rfl : tx = [] := Classical.byContradiction fun h => absurd (htx.2 h) (by decide)
              obtain ⟨rfl, rfl⟩ := hon (by decide)
              obtain rfl : tg = true := htg.trans (by decide)
              obtain ⟨q1, q2⟩ := hl1 nm (hnm.1 (.inr rfl))
              obtain ⟨p1, p2⟩ := hem
              clear hnm htx hon hl1 htg ha8' ha8
              go_wp2_with fail
              go_meet
              exact ⟨rfl, rfl⟩
            · obtain rfl : tx = [] := Classical.byContradiction fun h => absurd (htx.2 h) (by decide)
              obtain rfl : nm = [] := Classical.byContradiction fun h => absurd (hnm.2 h) (by decide)
              obtain ⟨rfl, rfl⟩ := hon (by decide)
              obtain rfl : tg = false := htg.trans (by decide)
              obtain ⟨p1, p2⟩ := hem
              clear hnm htx hon hl1 htg ha8' ha8
              go_wp2_with fail
              go_meet
              exact ⟨rfl, rfl⟩
            · obtain rfl : tx = [] := Classical.byContradiction fun h => absurd (htx.2 h) (by decide)
              obtain rfl : nm = [] := Classical.byContradiction fun h => absurd (hnm.2 h) (by decide)
              obtain ⟨rfl, rfl⟩ := hon (by decide)
              obtain rfl : tg = false := htg.trans (by decide)
              obtain ⟨p1, p2⟩ := hem
              clear hnm htx hon hl1 htg ha8' ha8
              go_wp2_with fail
              go_meet
              exact ⟨rfl, rfl⟩
          case rest =>
            obtain ⟨rfl, rfl⟩ := hcut
            go_upto_region 12 with fail
            go_cut [113] from 35 to 183 (fun t wx => t = .bool false ∧ wx = wr.alloc (.cells #[.int .i64 kd, .string (strB nm), .slice sa al.length sc, .bool sf, .string (strB tx)] 36))
            case first =>
              by_cases hk1 : kd = 1
              · have hk2 : (kd == 1) = true := beq_iff_eq.2 hk1
                rcases Nat.eq_zero_or_pos k with hk0 | hk0
                · have hki : ¬ (0 : Int) < (k : Int) := by omega
                  have hkn : ¬ 0 < k := by omega
                  clear hk0 hk1
                  go_wp2_with fail
                  go_meet
                  exact ⟨rfl, rfl⟩
                · obtain ⟨j, hkj⟩ : ∃ j, k = j + 1 := ⟨k - 1, by omega⟩
                  obtain ⟨z, hz1, hz2⟩ := HPREV.out j hkj.symm hk1
                  have hki : (0 : Int) < (k : Int) := by omega
                  have hks : (k : Int) - 1 = (j : Int) := by omega
                  have hjL : j < L.length := by omega
                  have hjLi : (j : Int) < (L.length : Int) := by omega
                  have hw : wrap64 (j : Int) = (j : Int) := by unfold wrap64; omega
                  have hz3 : (z == 1) = false := beq_eq_false_iff_ne.2 hz1
                  clear hk1 hz1 hkj
                  go_wp2_with fail
                  go_meet
                  exact ⟨rfl, rfl⟩
              · have hk2 : (kd == 1) = false := beq_eq_false_iff_ne.2 hk1
                clear hk1
                go_wp2_with fail
                · go_meet
                  exact ⟨rfl, rfl⟩
                · go_meet
                  exact ⟨rfl, rfl⟩
            case rest =>
              obtain ⟨rfl, rfl⟩ := hcut
              have HX8 : Hid ((wr.alloc (.cells #[.int .i64 kd, .string (strB nm), .slice sa al.length sc, .bool sf, .string (strB tx)] 36)).heap[wr.heap.size]? = some (.cells #[.int .i64 kd, .string (strB nm), .slice sa al.length sc, .bool sf, .string (strB tx)] 36 (0, 0))) := heap_alloc_new _ _
              have HS8 := Lib.hid (HSA.out.below ((Below.refl _ _).alloc (Nat.le_refl _) (.cells #[.int .i64 kd, .string (strB nm), .slice sa al.length sc, .bool sf, .string (strB tx)] 36)))
              have HB8 := Lib.hid (HBr.out.alloc HBr.out.size (.cells #[.int .i64 kd, .string (strB nm), .slice sa al.length sc, .bool sf, .string (strB tx)] 36))
              have HC8 := Lib.hid (HBs.out.alloc HBs.out.size (.cells #[.int .i64 kd, .string (strB nm), .slice sa al.length sc, .bool sf, .string (strB tx)] 36))
              have hz8 : wr.heap.size < (wr.alloc (.cells #[.int .i64 kd, .string (strB nm), .slice sa al.length sc, .bool sf, .string (strB tx)] 36)).heap.size := by simp
              obtain ⟨X, hX⟩ : ∃ X, X = wr.heap.size := ⟨_, rfl⟩
              rw [← hX] at HX8 hz8
              have HAO : Hid (AtsOk al) := HG.out.ats
              have HNM : Hid (∀ c ∈ nm, Nm c) := HG.out.name
              have HSN : Hid (nm.length ≤ 2049 ∧ ∀ a ∈ al, a.1.length ≤ 2049) := HSH.out
              have hal8 : al.length ≤ 8 := HG.out.few
              simp only [← hX]
              have HXX := Lib.hid hX
              clear hX
              generalize wr.alloc (.cells #[.int .i64 kd, .string (strB nm), .slice sa al.length sc, .bool sf, .string (strB tx)] 36) = W8 at *
              have hz9 : w.heap.size ≤ W8.heap.size := HB8.out.size
              obtain ⟨⟨y0, y1, y2, y3, y4⟩, -⟩ := markX_cells HX8.out
              go_wp2_with fail
              clear y0 y1 y2 y3 y4
              go_loopg [9, 10] (al.length) (fun g nv kv wi => ∃ (q : Nat) (N : Str), q ≤ al.length ∧ al.length - q ≤ g ∧ kv = .int .i64 q ∧ nv = .string (strB N) ∧ (∀ c ∈ N, Nm c) ∧ N.length ≤ 2049 * (q + 1) ∧ Below W8.heap.size W8 wi)
              case atStart => exact ⟨0, nm, Nat.zero_le _, Nat.le_refl _, rfl, rfl, HNM.out, by have := HSN.out.1; omega, Below.refl _ _⟩
              case round =>
                obtain ⟨q, N, hq, hgq, rfl, rfl, hN, hNl, hbi⟩ := hrel
                have HBi := Lib.hid hbi
                have HN := Lib.hid hN
                obtain ⟨⟨y0, y1, y2, y3, y4⟩, -⟩ := markX_cells ((hbi.block X hz8).trans HX8.out)
                clear hbi hN
                by_cases hql : q < al.length
                · have hqp : q < (attP al).length := by rw [attP_length]; exact hql
                  obtain ⟨sb, so, rfl, hsb, a0, a1⟩ := pair_cells (HS8.out.below HBi.out) hqp
                  have eq0 := attP_get al q hql hqp
                  rw [eq0] at a0
                  simp only at a0
                  have HQ := Lib.hid (HAO.out.1 al[q] (List.getElem_mem hql))
                  have HSQ := Lib.hid (HSN.out.2 al[q] (List.getElem_mem hql))
                  clear eq0 a1
                  go_wp2_with fail
                  go_loopg [11] q (fun g jv wj => ∃ j : Nat, j ≤ q ∧ q - j ≤ g ∧ jv = .int .i64 j ∧ Below W8.heap.size W8 wj)
                  case atStart => exact ⟨0, Nat.zero_le _, Nat.le_refl _, rfl, HBi.out⟩
                  case round =>
                    obtain ⟨j, hj, hgj, rfl, hbj⟩ := hrel
                    have HBj := Lib.hid hbj
                    obtain ⟨⟨z0, z1, z2, z3, z4⟩, -⟩ := markX_cells ((hbj.block X hz8).trans HX8.out)
                    obtain ⟨sb', so', hse, hsb', c0, -⟩ := pair_cells (HS8.out.below hbj) hqp
                    cases hse
                    rw [attP_get al q hql hqp] at c0
                    simp only at c0
                    clear hbj y0 y1 y2 y3 y4 a0
                    by_cases hjq : j < q
                    · have hjp : j < (attP al).length := by rw [attP_length]; omega
                      obtain ⟨sb', so', hse, hsb', d0, -⟩ := pair_cells (HS8.out.below HBj.out) hjp
                      cases hse
                      rw [attP_get al j (by omega) hjp] at d0
                      simp only at d0
                      have hjl : j < al.length := by omega
                      have hne : ((strB al[j].1).toList == (strB al[q].1).toList) = false := by
                        rw [toList_strB, toList_strB]
                        exact beq_eq_false_iff_ne.2 ((List.pairwise_iff_getElem.1 HAO.out.2) j q hjl hql hjq)
                      go_wp2_with fail
                      go_quiet (fail)
                      go_wp2_with fail
                      go_roundg (q - (j + 1))
                      case measure => omega
                      case rel => exact ⟨j + 1, by omega, Nat.le_refl _, by go_num, by first | exact HBj.out | exact HBj.out.drew | exact below_n HBj.out _⟩
                    · obtain rfl : j = q := by omega
                      have hnb := HQ.out.1
                      have hne : (strB al[j].1).toList.isEmpty = false ∧ ¬ (strB al[j].1).toList = [] := by
                        rw [toList_strB]
                        exact ⟨by cases h : al[j].1; exact absurd h hnb; rfl, hnb⟩
                      obtain ⟨hne1, hne2⟩ := hne
                      have hno : ¬ 9223372036854775807 < (strB N).size + (strB al[j].1).size := by
                        rw [strB_size, strB_size]
                        have := HSQ.out
                        omega
                      have hcat : strB N ++ strB al[j].1 = strB (N ++ al[j].1) := by
                        apply toList_inj
                        rw [toList_append', toList_strB, toList_strB, toList_strB]
                      clear hnb
                      go_wp2_with fail
                      go_roundg (al.length - (j + 1))
                      case measure => omega
                      case rel =>
                        refine ⟨j + 1, N ++ al[j].1, by omega, Nat.le_refl _, by go_num, rfl, fun c hc => ?_, ?_, HBj.out⟩
                        · rcases List.mem_append.1 hc with hc | hc
                          · exact HN.out c hc
                          · exact HQ.out.2 c hc
                        · rw [List.length_append]
                          have := HSQ.out
                          omega
                · obtain rfl : q = al.length := by omega
                  go_wp2_with fail
                  have hNs : (strB N).size = N.length := strB_size N
                  go_loopg [12] (N.length) (fun g tv wk => ∃ t : Nat, t ≤ N.length ∧ N.length - t ≤ g ∧ tv = .int .i64 t ∧ wk = wr)
                  case atStart => exact ⟨0, Nat.zero_le _, Nat.le_refl _, rfl, rfl⟩
                  case round =>
                    obtain ⟨t, ht, hgt, rfl, rfl⟩ := hrel
                    by_cases htl : t < N.length
                    · have hts : t < (strB N).size := by rw [hNs]; exact htl
                      have hun : Nm (strB N)[t] := by
                        have h1 := byte_at (strB N) t hts (by rw [toList_strB]; exact htl)
                        have h2 := List.getElem_of_eq (toList_strB N) (i := t) (by rw [toList_strB]; exact htl)
                        rw [← h1, h2]
                        exact HN.out _ (List.getElem_mem htl)
                      obtain ⟨n1, n2, n3⟩ := nm_nat hun
                      clear hun
                      by_cases h65 : 65 ≤ ((strB N)[t].toNat : Int)
                      · have h90 : ¬ ((strB N)[t].toNat : Int) ≤ 90 := fun h => n1 ⟨h65, h⟩
                        clear n1
                        go_wp2_with fail
                        go_roundg (N.length - (t + 1))
                        case measure => omega
                        case rel => exact ⟨t + 1, by omega, Nat.le_refl _, by go_num, rfl⟩
                      · clear n1
                        go_wp2_with fail
                        go_roundg (N.length - (t + 1))
                        case measure => omega
                        case rel => exact ⟨t + 1, by omega, Nat.le_refl _, by go_num, rfl⟩
                    · obtain rfl : t = N.length := by omega
                      go_wp2_with fail
                      go_roundg (L.length - (k + 1))
                      case measure => omega
                      case rel => exact ⟨k + 1, by omega, Nat.le_refl _, by go_num, belowCall HB8.out HBi.out, belowCall HC8.out HBi.out⟩
      · go_wp2_with fail
        go_ret
        exact ⟨rfl, HBr.out⟩
end Go.Proofs.Ytbabcohidpcjjaa
