import Derived.Test.YtbabcohidpcjjaaGreatDzBase
import Derived.Test.YtbabcohidpcjjaaGreatZDzK
import Derived.Deep.DeepCutAuto
import Derived.Deep.CutBlock
import Derived.Deep.RegionHeld3
/-
  Contract: the document's Next: the next mark. (Seat 4's '.Z'; printed by wip/dzl_gen.py.)
-/
namespace Go.Proofs.YtbabcohidpcjjaaGreat
open Go.RowKit Mem

/-- what a Next answers: of the document and of the program alike -/
def NextAt (base : Nat) (o : Option MarkD × MkM) (r : Ending) (w' : World) : Prop := match o.1 with
  | some x => ∃ sl, r = .returned (.tuple #[markV sl x, .int .i64 0]) ∧ w'.ownsRow base 56 2 sl x.attrs.length (pairsV (attP x.attrs))
  | none => r = .returned (.tuple #[markV (.slice none 0 0) (if o.2.err ≠ 0 then noM else bareM 6), .int .i64 o.2.err])
theorem next_some {base : Nat} {o : Option MarkD × MkM} {x : MarkD} {m : MkM} {r : Ending} {w' : World} (h : o = (some x, m)) (hr : ∃ sl, r = .returned (.tuple #[markV sl x, .int .i64 0]) ∧ w'.ownsRow base 56 2 sl x.attrs.length (pairsV (attP x.attrs))) : NextAt base o r w' := by
  rw [h]; exact hr
theorem next_none {base : Nat} {o : Option MarkD × MkM} {m : MkM} {r : Ending} {w' : World} (h : o = (none, m)) (hr : r = .returned (.tuple #[markV (.slice none 0 0) (if m.err ≠ 0 then noM else bareM 6), .int .i64 m.err])) : NextAt base o r w' := by
  rw [h]; exact hr
theorem draw_keeps {F : Nat → Prop} {a w : World} (h : Keeps F a w) (n : Nat) : Keeps F a (w.drewN n) := ⟨h.os, h.tape, h.output, h.size, h.block⟩
/-- the document's reader within Next: R the result's block -/
structure NW (w : World) (b : Nat) (d : DocD) (u : World) : Prop where
  row : Row u b (docV d)
  zero : u.heap[w.heap.size]? = some (.cells zeroMark 46 (0, 0))
  keeps : Keeps (Only b) w u
  lt : b < w.heap.size ∧ w.heap.size < u.heap.size
theorem NW.drawn {w u : World} {b : Nat} {d : DocD} (h : NW w b d u) (n : Nat) : NW w b d (u.drewN n) :=
  ⟨h.row.kept rfl, h.zero, draw_keeps h.keeps n, h.lt⟩
theorem NW.calm {w u u' : World} {b : Nat} {d : DocD} (h : NW w b d u) (hb : Below u.heap.size u u') : NW w b d u' := by
  have hl := h.lt
  exact ⟨h.row.below hb h.row.lt, zero_below h.zero hb hl.2, keeps_then' h.keeps hb, ⟨hl.1, Nat.lt_of_lt_of_le hl.2 hb.size⟩⟩
theorem NW.moved {w u u' : World} {b : Nat} {d d' : DocD} (h : NW w b d u) (hk : Keeps (Only b) u u') (hr : Row u' b (docV d')) : NW w b d' u' := by
  have hl := h.lt
  exact ⟨hr, only_zero h.zero hk hl.2 (by omega), h.keeps.trans hk, ⟨hl.1, Nat.lt_of_lt_of_le hl.2 hk.size⟩⟩
theorem NW.at {w u : World} {b : Nat} {d : DocD} (h : NW w b d u) {z : Int} {q : Nat} (hz : z = (q : Nat)) : NW w b { d with pos := q } (u.setCell ⟨b, 1, none⟩ (.int .i64 z)) :=
  h.moved (keep_set (Keeps.refl _ _) _) (by rw [← doc_pos d hz]; exact h.row.set 1 _)
set_option maxRecDepth 100000 in
set_option maxHeartbeats 16000000 in
theorem dNext_any (d : DocD) (m : MkM) (b : Nat) (w : World) (hr : Row w b (docV d)) (hm : DocR d m) (hs : d.text.size ≤ 1000000000) (hn : d.name.length ≤ 4294967270) :
    Calls Tryz.prog 19 #[.pointer (some ⟨b, 0, none⟩)] w fun r w' => (∃ d', DocR d' (readF m).2 ∧ Row w' b (docV d') ∧ d'.text = d.text ∧ d'.name.length ≤ 4294967270) ∧ Keeps (Only b) w w' ∧ NextAt w.heap.size (readF m) r w' := by
  obtain ⟨X, hX⟩ : ∃ X, X = readF m := ⟨_, rfl⟩
  rw [← hX]
  obtain ⟨T, hT⟩ : ∃ T, T = d.text := ⟨_, rfl⟩
  rw [← hT] at hs ⊢
  have hbw := hr.lt
  have HM := Lib.hid hm
  have HX := Lib.hid hX.symm
  have HT := Lib.hid hT.symm
  have HN := Lib.hid hn
  have HW0 : Hid (NW w b d (w.alloc (.cells #[.int .i64 0, .string ⟨#[]⟩, .slice none 0 0, .bool false, .string ⟨#[]⟩] 46))) :=
    ⟨hr.kept (heap_alloc_old _ _ hbw), heap_alloc_new _ _, (Keeps.refl (Only b) w).alloc _, ⟨hbw, by simp⟩⟩
  clear hr hm hX hT hn
  go_enter Tryz.func19, Tryz.ntmps19
  go_wp2_with fail
  generalize w.alloc (.cells #[.int .i64 0, .string ⟨#[]⟩, .slice none 0 0, .bool false, .string ⟨#[]⟩] 46) = w0 at *
  go_loopg [11] (2 * T.size + 1) (fun g _ wr => ∃ (d1 : DocD) (m1 : MkM), DocR d1 m1 ∧ readF m1 = X ∧ d1.text = T ∧ d1.name.length ≤ 4294967270 ∧ NW w b d1 wr ∧ 2 * (T.size - d1.pos) + (if d1.err = 0 then 1 else 0) ≤ g)
  case atStart => exact ⟨d, m, HM.out, HX.out, HT.out, HN.out, HW0.out, by split <;> omega⟩
  case round =>
    obtain ⟨d1, m1, hm, hx, ht, hn, hw, hg⟩ := hrel
    obtain ⟨T1, p, mode, name, cdata, er⟩ := d1
    simp only at ht hn hg
    subst ht
    have HM := Lib.hid hm
    have HX := Lib.hid hx
    have HN := Lib.hid hn
    have HW := Lib.hid hw
    have HG := Lib.hid hg
    clear hm hx hn hw hg HW0
    obtain ⟨cb, hcb⟩ : ∃ cb, cb = decide (er = 0 ∧ p < T1.size) := ⟨_, rfl⟩
    have HCB := Lib.hid hcb
    clear hcb
    go_upto_region 1 with fail
    go_cut [27] (fun t wx => t = .bool cb ∧ ∃ q, wx = wr.drewN q)
    case first =>
      as_aux_lemma =>
        obtain ⟨c0, c1, c2, c3, c4, c5⟩ := doc_row HW.out.row
        simp only at c0 c1 c2 c3 c4 c5
        by_cases he : er = 0
        · have hei : (er == 0) = true := beq_iff_eq.2 he
          by_cases hp : p < T1.size
          · have hpi : (p : Int) < (T1.size : Int) := by omega
            have hcb := Lib.hid (HCB.out.trans (decide_eq_true ⟨he, hp⟩))
            clear he
            go_quiet (fail)
            go_wp2_with fail
            go_meet
            exact ⟨by rw [hcb.out], _, rfl⟩
          · have hpi : ¬ (p : Int) < (T1.size : Int) := by omega
            have hcb := Lib.hid (HCB.out.trans (decide_eq_false fun h => hp h.2))
            clear he
            go_quiet (fail)
            go_wp2_with fail
            go_meet
            exact ⟨by rw [hcb.out], _, rfl⟩
        · have hei : (er == 0) = false := beq_eq_false_iff_ne.2 he
          have hcb := Lib.hid (HCB.out.trans (decide_eq_false fun h => he h.1))
          clear he
          go_quiet (fail)
          go_wp2_with fail
          go_meet
          exact ⟨by rw [hcb.out], _, rfl⟩
    case rest =>
      obtain ⟨rfl, q0, rfl⟩ := hcut
      have HW1 := Lib.hid (HW.out.drawn q0)
      clear HW
      generalize wr.drewN q0 = w1 at *
      obtain ⟨c0, c1, c2, c3, c4, c5⟩ := doc_row HW1.out.row
      simp only at c0 c1 c2 c3 c4 c5
      have f1 := doc_free HW1.out.row 1 (by decide)
      obtain ⟨⟨z0, z1, z2, z3, z4⟩, y0, y1, y2, y3, y4⟩ := res_cells HW1.out.zero
      have hl := HW1.out.lt
      have hne : w.heap.size ≠ b := by omega
      have hne2 : b ≠ w.heap.size := by omega
      cases cb
      · as_aux_lemma =>
          have hno := of_decide_eq_false HCB.out.symm
          by_cases he : er = 0
          · have hei : (er != 0) = false := by rw [he]; rfl
            have hXe : Hid (X = (none, m1)) := by
              show _ = _
              rw [← HX.out]
              refine read_none (HM.out.machine he) ?_
              rw [(HM.out.rest he).2.2.1]
              exact List.drop_of_length_le (by show T1.toList.length ≤ p; rw [size_toList]; have : ¬ p < T1.size := fun h => hno ⟨he, h⟩; omega)
            have hme : Hid (m1.err = 0) := by show _ = _; rw [HM.out.err]; exact he
            clear hno he
            go_wp2_with fail
            refine bodyPost_ret (results_attr rfl _ _ w.heap.size _ _ _ _ rfl (put5_at HW1.out.zero _ _ _ _ _) Tryz.underlying46 rfl mark_info) rfl ?_
            refine ⟨⟨⟨T1, p, mode, name, cdata, er⟩, by rw [hXe.out]; exact HM.out, put5_row HW1.out.row hne2 _ _ _ _ _, rfl, HN.out⟩, put5_keeps HW1.out.keeps (Nat.le_refl _) _ _ _ _ _, next_none hXe.out ?_⟩
            rw [hme.out, if_neg (fun h => h rfl)]
            rfl
          · have hei : (er != 0) = true := bne_iff_ne.2 he
            have hme : Hid (m1.err = er) := HM.out.err
            have hXe : Hid (X = (none, m1)) := by
              show _ = _
              rw [← HX.out]
              exact read_err (by rw [hme.out]; exact he)
            have hne0 := Lib.hid he
            clear hno he
            go_upto_region 33 with fail
            have d5 : w1.drew.cell? ⟨b, 5, none⟩ = some (.int .i64 er) := c5
            have k5 : (put5 w1 w.heap.size (.int .i64 0) (.string ⟨#[]⟩) (.slice none 0 0) (.bool false) (.string ⟨#[]⟩)).drew.cell? ⟨b, 5, none⟩ = some (.int .i64 er) := (put5_row HW1.out.row hne2 _ _ _ _ _).cell (j := 5) rfl
            simp only [put5] at k5
            go_region_held3 (fun u => u.cell? ⟨b, 5, none⟩ = some (.int .i64 er)) (first | with_reducible exact c5 | with_reducible exact d5 | with_reducible exact k5) (first | fail)
            go_wp2_with fail
            refine bodyPost_ret (results_attr rfl _ _ w.heap.size _ _ _ _ rfl (at_drew (put5_at HW1.out.zero _ _ _ _ _)) Tryz.underlying46 rfl mark_info) rfl ?_
            exact ⟨⟨⟨T1, p, mode, name, cdata, er⟩, by rw [hXe.out]; exact HM.out, row_drew (put5_row HW1.out.row hne2 _ _ _ _ _), rfl, HN.out⟩, draw_keeps (put5_keeps HW1.out.keeps (Nat.le_refl _) _ _ _ _ _) 1, next_none hXe.out (by rw [hme.out, if_pos hne0.out]; rfl)⟩
      · skip
        obtain ⟨he, hp⟩ := of_decide_eq_true HCB.out.symm
        subst he
        have HR := Lib.hid (HM.out.machine rfl)
        have hb0 := (HM.out.rest rfl).2.2.1
        obtain ⟨s, hss⟩ : ∃ s, s = T1.toList.drop p := ⟨_, rfl⟩
        have hbuf : m1.buf = s := by rw [hss]; exact hb0
        have hsl : s.length = T1.size - p := by rw [hss, List.length_drop, size_toList]
        have hpi : (p : Int) < (T1.size : Int) := by omega
        have HWT := Lib.hid (HM.out.what s)
        simp only at HWT
        have hwl := what_len m1 s
        rw [hsl] at hwl
        have hwh : Hid (Calls Tryz.prog 30 #[.pointer (some ⟨b, 0, none⟩), .int .i64 p] w1 fun e w' => e = .returned (.int .i64 (codeF (whatM m1 s))) ∧ w1 = w') := by
          have h := what_any ⟨T1, p, mode, name, cdata, 0⟩ b p w1 HW1.out.row (by show T1.size ≤ _; omega) hp (by have := HN.out; show name.length ≤ _; omega)
          simp only at h
          rw [← hss, HWT.out] at h
          exact h
        have HB := Lib.hid hbuf
        have HS := Lib.hid hss
        have hwa : whatM m1 s ≠ 0 → ∃ r, s = 60 :: r := what_angle
        have HWL := Lib.hid hwl
        have HWA := Lib.hid hwa
        have hlook : Hid (∀ r k, s = 60 :: r → whatM m1 s = k → lookF m1 (60 :: r) = k) := fun r k h1 h2 => by
          rw [look_what HR.out.closed]
          rw [h1] at h2
          exact h2
        clear hbuf hss hsl hb0 hwl hwa HCB HWT
        go_wp2_with fail
        refine hwh.out.mono ?_
        rintro r wx ⟨rfl, rfl⟩
        dsimp only
        clear hwh
        rcases what_range m1 s with hk | hk | hk | hk | hk | hk | hk | hk
        · as_aux_lemma =>
            rw [hk, show codeF 0 = 0 from rfl]
            have HK := Lib.hid hk
            clear hk

            obtain ⟨n, n1, n2, n3, n4⟩ := run_split HR.out.closed s
            have HL : Hid (s.length = T1.size - p) := by show _ = _; rw [HS.out, List.length_drop, size_toList]
            have hn0 : 1 ≤ n := by
              rcases Nat.eq_zero_or_pos n with h | h
              · subst h
                exact absurd HK.out (n4 (by have := HL.out; omega))
              · exact h
            have hnT : p + n ≤ T1.size := by have := HL.out; omega
            have hread : Hid (X = (some (textM (if mode = 2 then s.take n else allS (s.take n) false)), { m1 with buf := s.drop n })) := by
              show _ = _
              rw [← HX.out]
              cases hs : s with
              | nil => exfalso; have := HL.out; rw [hs] at this; simp at this; omega
              | cons c r =>
                rw [read_text HR.out (HB.out.trans hs) ((what_zero HR.out.closed).1 (by rw [← hs]; exact HK.out)), HB.out, n2, ← hs]
                rw [show m1.mode = mode from HM.out.mode]
            have N2 := Lib.hid n2
            have N3 := Lib.hid n3
            have N4 := Lib.hid n4
            clear n2 n3 n4

            go_upto_block 3 with fail
            go_cut [] (fun wx => NW w b ⟨T1, p + n, mode, name, cdata, 0⟩ wx)
            case first =>
              as_aux_lemma =>
                go_wp2_with fail
                go_loopg [52] n (fun g _ wi => ∃ x : Nat, p ≤ x ∧ x ≤ p + n ∧ p + n - x ≤ g ∧ NW w b ⟨T1, x, mode, name, cdata, 0⟩ wi)
                case atStart => exact ⟨p, Nat.le_refl _, by omega, by omega, HW1.out⟩
                case round =>
                  obtain ⟨x, hx1, hx2, hgx, hwi⟩ := hrel
                  have HWI := Lib.hid hwi
                  obtain ⟨e0, e1, e2, e3, e4, e5⟩ := doc_row hwi.row
                  simp only at e0 e1 e2 e3 e4 e5
                  have g1 := doc_free hwi.row 1 (by decide)
                  have hcd : Hid (∀ q, x = p + q → whatF mode name cdata (T1.toList.drop x) = whatM m1 (s.drop q)) := fun q hq => by
                    rw [HS.out, List.drop_drop, ← hq]
                    exact HM.out.what _
                  clear hwi c0 c1 c2 c3 c4 c5 f1
                  by_cases hxs : x < T1.size
                  · have hxi : (x : Int) < (T1.size : Int) := by omega
                    have hwh := what_any ⟨T1, x, mode, name, cdata, 0⟩ b x wr HWI.out.row (by show T1.size ≤ _; omega) hxs (by have := HN.out; show name.length ≤ _; omega)
                    simp only at hwh
                    rw [hcd.out (x - p) (by omega)] at hwh
                    by_cases hlt : x < p + n
                    · rw [N3.out (x - p) (by omega), show codeF 0 = 0 from rfl] at hwh
                      have HWH := Lib.hid hwh
                      clear hwh
                      go_wp2_with fail
                      refine HWH.out.mono ?_
                      rintro r wx ⟨rfl, rfl⟩
                      dsimp only
                      clear HWH
                      go_wp2_with fail
                      go_roundg (p + n - (x + 1))
                      case measure => omega
                      case rel => exact ⟨x + 1, by omega, by omega, Nat.le_refl _, HWI.out.at (z := (x : Int) + 1) (by omega)⟩
                    · obtain rfl : x = p + n := by omega
                      have hnz := N4.out (by have := HL.out; omega)
                      rw [show p + n - p = n from by omega] at hwh
                      have hcz : (codeF (whatM m1 (s.drop n)) == 0) = false := by
                        rcases what_range m1 (s.drop n) with h | h | h | h | h | h | h | h
                        · exact absurd h hnz
                        all_goals rw [h]; rfl
                      have HWH := Lib.hid hwh
                      clear hwh hnz
                      generalize codeF (whatM m1 (s.drop n)) = cz at *
                      go_wp2_with fail
                      refine HWH.out.mono ?_
                      rintro r wx ⟨rfl, rfl⟩
                      dsimp only
                      clear HWH
                      go_wp2_with fail
                      go_meet
                      exact HWI.out
                  · obtain rfl : x = p + n := by omega
                    have hxi : ¬ ((p + n : Nat) : Int) < (T1.size : Int) := by omega
                    go_wp2_with fail
                    go_meet
                    exact HWI.out
            case rest =>
              have HW2 := Lib.hid hcut
              clear hcut c0 c1 c2 c3 c4 c5 f1 z0 z1 z2 z3 z4 y0 y1 y2 y3 y4
              obtain ⟨c0, c1, c2, c3, c4, c5⟩ := doc_row HW2.out.row
              simp only at c0 c1 c2 c3 c4 c5
              obtain ⟨pn, hpn⟩ : ∃ pn, pn = p + n := ⟨_, rfl⟩
              rw [← hpn] at c1
              have HPN := Lib.hid hpn
              have hext : T1.extract p pn = strB (s.take n) := by rw [hpn, ext_mid, HS.out]
              have hp1 : (p : Int) ≤ (pn : Int) := by omega
              have hp2 : (pn : Int) ≤ (T1.size : Int) := by omega
              have hall := fun u => All12_any (strB (s.take n)) false u (by rw [strB_size, List.length_take]; omega)
              rw [toList_strB] at hall
              have HALL := Lib.hid hall
              have HFIN : Hid (DocR ⟨T1, pn, mode, name, cdata, 0⟩ { m1 with buf := s.drop n }) :=
                HM.out.go (q := pn) rfl (by show pn ≤ T1.size; omega) (by show s.drop n = T1.toList.drop pn; rw [HS.out, List.drop_drop, ← HPN.out]) rfl HR.out.pass rfl rfl rfl rfl
              rw [← HPN.out] at HW2
              clear hall hpn
              by_cases hmo : mode = 2
              · have hmi : (mode != 2) = false := by rw [hmo]; rfl
                have hrd : Hid (X = (some (textM (s.take n)), { m1 with buf := s.drop n })) := by show _ = _; rw [hread.out, if_pos hmo]
                obtain ⟨⟨z0, z1, z2, z3, z4⟩, y0, y1, y2, y3, y4⟩ := res_cells HW2.out.zero
                clear hmo
                go_wp2_with fail
                refine bodyPost_ret (results_attr rfl _ _ w.heap.size _ _ _ _ rfl (put5_at HW2.out.zero _ _ _ _ _) Tryz.underlying46 rfl mark_info) rfl ?_
                exact ⟨⟨⟨T1, pn, mode, name, cdata, 0⟩, by rw [hrd.out]; exact HFIN.out, put5_row HW2.out.row hne2 _ _ _ _ _, rfl, HN.out⟩, put5_keeps HW2.out.keeps (Nat.le_refl _) _ _ _ _ _, next_some hrd.out ⟨.slice none 0 0, rfl, World.ownsRow_nil _ _ _ _⟩⟩
              · have hmi : (mode != 2) = true := bne_iff_ne.2 hmo
                have hrd : Hid (X = (some (textM (allS (s.take n) false)), { m1 with buf := s.drop n })) := by show _ = _; rw [hread.out, if_neg hmo]
                clear hmo
                go_wp2_with fail
                refine (HALL.out _).mono ?_
                rintro r w3 ⟨rfl, hb⟩
                have HW3 := Lib.hid (HW2.out.calm hb)
                obtain ⟨⟨z0, z1, z2, z3, z4⟩, y0, y1, y2, y3, y4⟩ := res_cells HW3.out.zero
                clear hb c0 c1 c2 c3 c4 c5
                dsimp only
                go_wp2_with fail
                refine bodyPost_ret (results_attr rfl _ _ w.heap.size _ _ _ _ rfl (put5_at HW3.out.zero _ _ _ _ _) Tryz.underlying46 rfl mark_info) rfl ?_
                exact ⟨⟨⟨T1, pn, mode, name, cdata, 0⟩, by rw [hrd.out]; exact HFIN.out, put5_row HW3.out.row hne2 _ _ _ _ _, rfl, HN.out⟩, put5_keeps HW3.out.keeps (Nat.le_refl _) _ _ _ _ _, next_some hrd.out ⟨.slice none 0 0, rfl, World.ownsRow_nil _ _ _ _⟩⟩
        · as_aux_lemma =>
            rw [hk, show codeF 2 = 1 from rfl]
            have HK := Lib.hid hk
            clear hk

            have h2 := HWL.out.1 HK.out
            obtain ⟨r0, hr0⟩ := HWA.out (by rw [HK.out]; decide)
            have hrd0 := read_tag (e := false) HR.out (HB.out.trans hr0) (hlook.out r0 2 hr0 HK.out)
            rw [HX.out, HB.out] at hrd0
            have hpl := parse_le (s.take 2048) false
            have hct := dtagR_any ⟨T1, p, mode, name, cdata, 0⟩ b false w1 HW1.out.row (by show T1.size ≤ _; omega) (by show p + _ ≤ T1.size; simp; omega)
            simp only at hct
            rw [← HS.out] at hct
            have hsl : s.length = T1.size - p := by rw [HS.out, List.length_drop, size_toList]
            rw [hsl] at hrd0
            rw [List.length_take, hsl] at hpl
            generalize parseF (s.take 2048) false = P at *
            have HRD := Lib.hid hrd0
            have HPL := Lib.hid hpl
            have HCT := Lib.hid hct
            clear hct hr0 hrd0 hpl hsl
            go_wp2_with fail
            refine HCT.out.mono ?_
            rintro r w2 ⟨hd, hkk⟩
            clear HCT
            unfold TagRAt at hd
            simp only at hd
            by_cases hp0 : P.2.1 < 0
            · rw [if_pos hp0] at hd
              obtain ⟨rfl, hrow⟩ := hd
              have HW2 := Lib.hid (HW1.out.moved hkk hrow)
              clear hrow hkk c0 c1 c2 c3 c4 c5 f1 z0 z1 z2 z3 z4 y0 y1 y2 y3 y4
              rw [show markV (.slice none 0 0) noM = .agg #[.int .i64 0, .string ⟨#[]⟩, .slice none 0 0, .bool false, .string ⟨#[]⟩] from rfl]
              dsimp only
              have HW3 := Lib.hid (HW2.out.calm ((Below.refl _ _).alloc (Nat.le_refl _) (.cells #[.int .i64 0, .string ⟨#[]⟩, .slice none 0 0, .bool false, .string ⟨#[]⟩] 46)))
              by_cases hL : 2048 < T1.size - p
              · have hX1 := Lib.hid (HRD.out.2.2.1 hp0 hL)
                rw [if_pos hL] at HW3
                clear hL hp0 HW2
                go_wp2_with fail
                go_roundg (2 * (T1.size - p))
                case measure => have := HG.out; simp at this; omega
                case rel =>
                  refine ⟨⟨T1, p, mode, name, cdata, 41⟩, { m1 with err := 41, buf := [] }, HM.out.bad 41 (by decide), ?_, rfl, HN.out, HW3.out, by show 2 * (T1.size - p) + (if (41 : Int) = 0 then 1 else 0) ≤ _; rw [if_neg (by decide)]; omega⟩
                  rw [hX1.out]
                  exact read_err (by show (41 : Int) ≠ 0; decide)
              · have hX1 := Lib.hid (HRD.out.2.2.2 hp0 (by omega))
                rw [if_neg hL] at HW3
                clear hL hp0 HW2
                go_wp2_with fail
                go_roundg 1
                case measure => have := HG.out; simp at this; omega
                case rel =>
                  refine ⟨⟨T1, T1.size, mode, name, cdata, 0⟩, { m1 with buf := [] }, ?_, ?_, rfl, HN.out, HW3.out, by show 2 * (T1.size - T1.size) + (if (0 : Int) = 0 then 1 else 0) ≤ _; rw [if_pos rfl]; omega⟩
                  · exact HM.out.go (q := T1.size) rfl (Nat.le_refl _) (List.drop_of_length_le (by rw [size_toList]; exact Nat.le_refl _)).symm rfl HR.out.pass rfl rfl rfl rfl
                  · rw [hX1.out]
                    exact read_none (HR.out.buf []) rfl
            · rw [if_neg hp0] at hd
              by_cases hp2 : P.2.2 ≠ 0
              · rw [if_pos hp2] at hd
                obtain ⟨rfl, h42, hrow⟩ := hd
                have hX1 := HRD.out.2.1 (by omega) hp2
                rw [h42] at hX1
                have HX1 := Lib.hid hX1
                have HW2 := Lib.hid (HW1.out.moved hkk hrow)
                have HW3 := Lib.hid (HW2.out.calm ((Below.refl _ _).alloc (Nat.le_refl _) (.cells #[.int .i64 0, .string ⟨#[]⟩, .slice none 0 0, .bool false, .string ⟨#[]⟩] 46)))
                clear hrow hkk c0 c1 c2 c3 c4 c5 f1 z0 z1 z2 z3 z4 y0 y1 y2 y3 y4 hX1 h42 hp2 hp0 HW2
                rw [show markV (.slice none 0 0) noM = .agg #[.int .i64 0, .string ⟨#[]⟩, .slice none 0 0, .bool false, .string ⟨#[]⟩] from rfl]
                dsimp only
                go_wp2_with fail
                go_roundg (2 * (T1.size - p))
                case measure => have := HG.out; simp at this; omega
                case rel =>
                  refine ⟨⟨T1, p, mode, name, cdata, 42⟩, { m1 with err := 42, buf := [] }, HM.out.bad 42 (by decide), ?_, rfl, HN.out, HW3.out, by show 2 * (T1.size - p) + (if (42 : Int) = 0 then 1 else 0) ≤ _; rw [if_neg (by decide)]; omega⟩
                  rw [HX1.out]
                  exact read_err (by show (42 : Int) ≠ 0; decide)
              · rw [if_neg hp2] at hd
                obtain ⟨sl, rfl, hown, hrow⟩ := hd
                have hX1 := Lib.hid (HRD.out.1 (by omega) (Classical.byContradiction hp2))
                have HW2 := Lib.hid (HW1.out.moved hkk hrow)
                have hwW := Nat.le_of_lt HW1.out.lt.2
                have HPB : Hid (p + P.2.1.toNat ≤ T1.size) := by show _ ≤ _; have := HPL.out; omega
                obtain ⟨M, hM⟩ : ∃ M, M = P.1 := ⟨_, rfl⟩
                rw [← hM] at hown hX1 ⊢
                obtain ⟨kd, nm, al, sf, tx⟩ := M
                obtain ⟨a, c, rfl, -⟩ := own_at hown
                have HO2 := Lib.hid hown
                have hz2 := HW2.out.lt.2
                clear hrow hkk c0 c1 c2 c3 c4 c5 f1 z0 z1 z2 z3 z4 y0 y1 y2 y3 y4 hp2 hp0 hown hM
                obtain ⟨⟨z0, z1, z2, z3, z4⟩, y0, y1, y2, y3, y4⟩ := res_cells HW2.out.zero
                dsimp only [markV]
                go_wp2_with fail
                have hzp : w.heap.size < (put5 w2 w.heap.size (.int .i64 kd) (.string (strB nm)) (.slice a al.length c) (.bool sf) (.string (strB tx))).heap.size := by simpa [put5] using hz2
                have hbp : b < (put5 w2 w.heap.size (.int .i64 kd) (.string (strB nm)) (.slice a al.length c) (.bool sf) (.string (strB tx))).heap.size := by have := HW2.out.lt; simp [put5]; omega
                refine bodyPost_ret (results_attr rfl _ _ w.heap.size _ _ _ _ rfl ((heap_alloc_old _ _ hzp).trans (put5_at HW2.out.zero _ _ _ _ _)) Tryz.underlying46 rfl mark_info) rfl ?_
                refine ⟨⟨⟨T1, p + P.2.1.toNat, mode, name, cdata, 0⟩, ?_, (put5_row HW2.out.row hne2 _ _ _ _ _).kept (heap_alloc_old _ _ hbp), rfl, HN.out⟩, (put5_keeps HW2.out.keeps (Nat.le_refl _) _ _ _ _ _).alloc _, next_some hX1.out ⟨.slice a al.length c, rfl, own_base ((own_put5 HO2.out HW1.out.lt.2 _ _ _ _ _).alloc _) hwW⟩⟩
                rw [hX1.out]
                exact HM.out.ended rfl HPB.out _ (by show s.drop P.2.1.toNat = T1.toList.drop (p + P.2.1.toNat); rw [HS.out, List.drop_drop]) false
        · as_aux_lemma =>
            rw [hk, show codeF 3 = 2 from rfl]
            have HK := Lib.hid hk
            clear hk

            have h2 := HWL.out.2.1 HK.out
            obtain ⟨r0, hr0⟩ := HWA.out (by rw [HK.out]; decide)
            have hrd0 := read_tag (e := true) HR.out (HB.out.trans hr0) (hlook.out r0 3 hr0 HK.out)
            rw [HX.out, HB.out] at hrd0
            have hpl := parse_le (s.take 2048) true
            have hct := dtagR_any ⟨T1, p, mode, name, cdata, 0⟩ b true w1 HW1.out.row (by show T1.size ≤ _; omega) (by show p + _ ≤ T1.size; simp; omega)
            simp only at hct
            rw [← HS.out] at hct
            have hsl : s.length = T1.size - p := by rw [HS.out, List.length_drop, size_toList]
            rw [hsl] at hrd0
            rw [List.length_take, hsl] at hpl
            generalize parseF (s.take 2048) true = P at *
            have HRD := Lib.hid hrd0
            have HPL := Lib.hid hpl
            have HCT := Lib.hid hct
            clear hct hr0 hrd0 hpl hsl
            go_wp2_with fail
            refine HCT.out.mono ?_
            rintro r w2 ⟨hd, hkk⟩
            clear HCT
            unfold TagRAt at hd
            simp only at hd
            by_cases hp0 : P.2.1 < 0
            · rw [if_pos hp0] at hd
              obtain ⟨rfl, hrow⟩ := hd
              have HW2 := Lib.hid (HW1.out.moved hkk hrow)
              clear hrow hkk c0 c1 c2 c3 c4 c5 f1 z0 z1 z2 z3 z4 y0 y1 y2 y3 y4
              rw [show markV (.slice none 0 0) noM = .agg #[.int .i64 0, .string ⟨#[]⟩, .slice none 0 0, .bool false, .string ⟨#[]⟩] from rfl]
              dsimp only
              have HW3 := Lib.hid (HW2.out.calm ((Below.refl _ _).alloc (Nat.le_refl _) (.cells #[.int .i64 0, .string ⟨#[]⟩, .slice none 0 0, .bool false, .string ⟨#[]⟩] 46)))
              by_cases hL : 2048 < T1.size - p
              · have hX1 := Lib.hid (HRD.out.2.2.1 hp0 hL)
                rw [if_pos hL] at HW3
                clear hL hp0 HW2
                go_wp2_with fail
                go_roundg (2 * (T1.size - p))
                case measure => have := HG.out; simp at this; omega
                case rel =>
                  refine ⟨⟨T1, p, mode, name, cdata, 41⟩, { m1 with err := 41, buf := [] }, HM.out.bad 41 (by decide), ?_, rfl, HN.out, HW3.out, by show 2 * (T1.size - p) + (if (41 : Int) = 0 then 1 else 0) ≤ _; rw [if_neg (by decide)]; omega⟩
                  rw [hX1.out]
                  exact read_err (by show (41 : Int) ≠ 0; decide)
              · have hX1 := Lib.hid (HRD.out.2.2.2 hp0 (by omega))
                rw [if_neg hL] at HW3
                clear hL hp0 HW2
                go_wp2_with fail
                go_roundg 1
                case measure => have := HG.out; simp at this; omega
                case rel =>
                  refine ⟨⟨T1, T1.size, mode, name, cdata, 0⟩, { m1 with buf := [] }, ?_, ?_, rfl, HN.out, HW3.out, by show 2 * (T1.size - T1.size) + (if (0 : Int) = 0 then 1 else 0) ≤ _; rw [if_pos rfl]; omega⟩
                  · exact HM.out.go (q := T1.size) rfl (Nat.le_refl _) (List.drop_of_length_le (by rw [size_toList]; exact Nat.le_refl _)).symm rfl HR.out.pass rfl rfl rfl rfl
                  · rw [hX1.out]
                    exact read_none (HR.out.buf []) rfl
            · rw [if_neg hp0] at hd
              by_cases hp2 : P.2.2 ≠ 0
              · rw [if_pos hp2] at hd
                obtain ⟨rfl, h42, hrow⟩ := hd
                have hX1 := HRD.out.2.1 (by omega) hp2
                rw [h42] at hX1
                have HX1 := Lib.hid hX1
                have HW2 := Lib.hid (HW1.out.moved hkk hrow)
                have HW3 := Lib.hid (HW2.out.calm ((Below.refl _ _).alloc (Nat.le_refl _) (.cells #[.int .i64 0, .string ⟨#[]⟩, .slice none 0 0, .bool false, .string ⟨#[]⟩] 46)))
                clear hrow hkk c0 c1 c2 c3 c4 c5 f1 z0 z1 z2 z3 z4 y0 y1 y2 y3 y4 hX1 h42 hp2 hp0 HW2
                rw [show markV (.slice none 0 0) noM = .agg #[.int .i64 0, .string ⟨#[]⟩, .slice none 0 0, .bool false, .string ⟨#[]⟩] from rfl]
                dsimp only
                go_wp2_with fail
                go_roundg (2 * (T1.size - p))
                case measure => have := HG.out; simp at this; omega
                case rel =>
                  refine ⟨⟨T1, p, mode, name, cdata, 42⟩, { m1 with err := 42, buf := [] }, HM.out.bad 42 (by decide), ?_, rfl, HN.out, HW3.out, by show 2 * (T1.size - p) + (if (42 : Int) = 0 then 1 else 0) ≤ _; rw [if_neg (by decide)]; omega⟩
                  rw [HX1.out]
                  exact read_err (by show (42 : Int) ≠ 0; decide)
              · rw [if_neg hp2] at hd
                obtain ⟨sl, rfl, hown, hrow⟩ := hd
                have hX1 := Lib.hid (HRD.out.1 (by omega) (Classical.byContradiction hp2))
                have HW2 := Lib.hid (HW1.out.moved hkk hrow)
                have hwW := Nat.le_of_lt HW1.out.lt.2
                have HPB : Hid (p + P.2.1.toNat ≤ T1.size) := by show _ ≤ _; have := HPL.out; omega
                obtain ⟨M, hM⟩ : ∃ M, M = P.1 := ⟨_, rfl⟩
                rw [← hM] at hown hX1 ⊢
                obtain ⟨kd, nm, al, sf, tx⟩ := M
                obtain ⟨a, c, rfl, -⟩ := own_at hown
                have HO2 := Lib.hid hown
                have hz2 := HW2.out.lt.2
                clear hrow hkk c0 c1 c2 c3 c4 c5 f1 z0 z1 z2 z3 z4 y0 y1 y2 y3 y4 hp2 hp0 hown hM
                obtain ⟨⟨z0, z1, z2, z3, z4⟩, y0, y1, y2, y3, y4⟩ := res_cells HW2.out.zero
                dsimp only [markV]
                go_wp2_with fail
                have hzp : w.heap.size < (put5 w2 w.heap.size (.int .i64 kd) (.string (strB nm)) (.slice a al.length c) (.bool sf) (.string (strB tx))).heap.size := by simpa [put5] using hz2
                have hbp : b < (put5 w2 w.heap.size (.int .i64 kd) (.string (strB nm)) (.slice a al.length c) (.bool sf) (.string (strB tx))).heap.size := by have := HW2.out.lt; simp [put5]; omega
                refine bodyPost_ret (results_attr rfl _ _ w.heap.size _ _ _ _ rfl ((heap_alloc_old _ _ hzp).trans (put5_at HW2.out.zero _ _ _ _ _)) Tryz.underlying46 rfl mark_info) rfl ?_
                refine ⟨⟨⟨T1, p + P.2.1.toNat, 0, [], cdata, 0⟩, ?_, (put5_row HW2.out.row hne2 _ _ _ _ _).kept (heap_alloc_old _ _ hbp), rfl, Nat.zero_le _⟩, (put5_keeps HW2.out.keeps (Nat.le_refl _) _ _ _ _ _).alloc _, next_some hX1.out ⟨.slice a al.length c, rfl, own_base ((own_put5 HO2.out HW1.out.lt.2 _ _ _ _ _).alloc _) hwW⟩⟩
                rw [hX1.out]
                exact HM.out.ended rfl HPB.out _ (by show s.drop P.2.1.toNat = T1.toList.drop (p + P.2.1.toNat); rw [HS.out, List.drop_drop]) true
        · as_aux_lemma =>
            rw [hk, show codeF 4 = 3 from rfl]
            have HK := Lib.hid hk
            clear hk

            have h3 := HWL.out.2.2.1 HK.out
            obtain ⟨r0, hr0⟩ := HWA.out (by rw [HK.out]; decide)
            have hrd : Hid (readF { m1 with buf := s.drop 3 } = X) := by
              show _ = _
              rw [← HX.out, read_nothing HR.out (HB.out.trans hr0) (hlook.out r0 4 hr0 HK.out), HB.out]
            clear hr0
            go_wp2_with fail
            go_roundg (2 * (T1.size - (p + 3)) + 1)
            case measure => have := HG.out; simp at this; omega
            case rel =>
              refine ⟨⟨T1, p + 3, mode, name, cdata, 0⟩, { m1 with buf := s.drop 3 }, ?_, hrd.out, rfl, HN.out, HW1.out.at (z := (p : Int) + 3) (by omega), by show 2 * (T1.size - (p + 3)) + (if (0 : Int) = 0 then 1 else 0) ≤ _; rw [if_pos rfl]; omega⟩
              exact HM.out.go (q := p + 3) rfl (by show p + 3 ≤ T1.size; omega) (by show s.drop 3 = T1.toList.drop (p + 3); rw [HS.out, List.drop_drop]) rfl HR.out.pass rfl rfl rfl rfl
        · as_aux_lemma =>
            rw [hk, show codeF 5 = 4 from rfl]
            have HK := Lib.hid hk
            clear hk

            have h4 := HWL.out.2.2.2.1 HK.out
            obtain ⟨r0, hr0⟩ := HWA.out (by rw [HK.out]; decide)
            obtain ⟨fr, hrd0⟩ := read_comment HR.out (HB.out.trans hr0) (hlook.out r0 5 hr0 HK.out)
            rw [HX.out, HB.out] at hrd0
            have hrd := Lib.hid hrd0
            have hcl := close_any T1 b (p + 4) w1 c0 (by omega) (by omega)
            obtain ⟨q, hq⟩ : ∃ q, q = T1.size - (closeF (T1.toList.drop (p + 4))).length := ⟨_, rfl⟩
            rw [← hq] at hcl
            have hqs : q ≤ T1.size := by omega
            have HSU : Hid (closeF (s.drop 4) = T1.toList.drop q) := by
              show _ = _
              rw [HS.out, List.drop_drop, hq]
              exact suffix_drop (closeF_suffix _)
            have HCL : Hid (Calls Tryz.prog 32 #[.pointer (some ⟨b, 0, none⟩), .int .i64 ((p : Int) + 4)] w1 fun e w' => e = .returned (.int .i64 q) ∧ w1 = w') := hcl
            have hpw : IntKind.i64.wrap ((p : Int) + 4) = (p : Int) + 4 := wrap_small _ (by omega) (by omega)
            clear hcl hq hr0 hrd0
            go_wp2_with fail
            refine HCL.out.mono ?_
            rintro r wx ⟨rfl, rfl⟩
            dsimp only
            clear HCL hpw
            go_wp2_with fail
            have HW2 := Lib.hid (HW1.out.at (z := (q : Int)) (q := q) rfl)
            refine bodyPost_ret (results_attr rfl _ _ w.heap.size _ _ _ _ rfl (put5_at HW2.out.zero _ _ _ _ _) Tryz.underlying46 rfl mark_info) rfl ?_
            refine ⟨⟨⟨T1, q, mode, name, cdata, 0⟩, ?_, put5_row HW2.out.row hne2 _ _ _ _ _, rfl, HN.out⟩, put5_keeps HW2.out.keeps (Nat.le_refl _) _ _ _ _ _, next_some hrd.out ⟨.slice none 0 0, rfl, World.ownsRow_nil _ _ _ _⟩⟩
            rw [hrd.out]
            exact HM.out.go (q := q) rfl hqs HSU.out rfl rfl rfl rfl rfl rfl
        · as_aux_lemma =>
            rw [hk, show codeF 6 = 5 from rfl]
            have HK := Lib.hid hk
            clear hk

            obtain ⟨r0, hr0⟩ := HWA.out (by rw [HK.out]; decide)
            have hrd0 := read_angle (j := 5) HR.out (HB.out.trans hr0) (hlook.out r0 6 hr0 HK.out) (.inl ⟨rfl, rfl⟩)
            rw [HX.out, HB.out, angle_first] at hrd0
            have hrd := Lib.hid hrd0
            have hcl := fun u => first_any T1 p ⟨#[62]⟩ u (by omega) (by decide) (by omega)
            rw [show (⟨#[62]⟩ : ByteArray).toList = [62] from toList_strB [62], ← HS.out] at hcl
            have hfl := firstN_le [62] s
            obtain ⟨fn, hfn⟩ : ∃ fn, fn = firstN [62] s := ⟨_, rfl⟩
            rw [← hfn] at hcl hrd hfl
            obtain ⟨f0, hf0⟩ : ∃ f0, f0 = p + fn := ⟨_, rfl⟩
            rw [← hf0] at hcl
            have HCL := Lib.hid hcl
            have hsl : s.length = T1.size - p := by rw [HS.out, List.length_drop, size_toList]
            have hfs : f0 ≤ T1.size := by omega
            obtain ⟨q, hq⟩ : ∃ q, q = min (f0 + 1) T1.size := ⟨_, rfl⟩
            have hqs : q ≤ T1.size := by omega
            have hmin : min ((f0 : Int) + 1) (T1.size : Int) = (q : Int) := by omega
            have HSU : Hid (s.drop (fn + 1) = T1.toList.drop q) := by
              show _ = _
              rw [HS.out, List.drop_drop, drop_min, hq, hf0, Nat.add_assoc]
            have hf9 : IntKind.i64.wrap ((f0 : Int) + 1) = (f0 : Int) + 1 := wrap_small _ (by omega) (by omega)
            clear hcl hr0 hrd0 hq hf0 hfn hsl hfl
            go_wp2_with fail
            refine (HCL.out _).mono ?_
            rintro r wx ⟨rfl, rfl⟩
            dsimp only
            clear HCL
            go_wp2_with fail
            have HW2 := Lib.hid (HW1.out.at (z := (q : Int)) (q := q) rfl)
            refine bodyPost_ret (results_attr rfl _ _ w.heap.size _ _ _ _ rfl (put5_at HW2.out.zero _ _ _ _ _) Tryz.underlying46 rfl mark_info) rfl ?_
            refine ⟨⟨⟨T1, q, mode, name, cdata, 0⟩, ?_, put5_row HW2.out.row hne2 _ _ _ _ _, rfl, HN.out⟩, put5_keeps HW2.out.keeps (Nat.le_refl _) _ _ _ _ _, next_some hrd.out ⟨.slice none 0 0, rfl, World.ownsRow_nil _ _ _ _⟩⟩
            rw [hrd.out]
            exact HM.out.go (q := q) rfl hqs HSU.out rfl rfl rfl rfl rfl rfl
        · as_aux_lemma =>
            rw [hk, show codeF 7 = 6 from rfl]
            have HK := Lib.hid hk
            clear hk

            have h9 := HWL.out.2.2.2.2 HK.out
            obtain ⟨r0, hr0⟩ := HWA.out (by rw [HK.out]; decide)
            have hrd0 := read_cdata HR.out (HB.out.trans hr0) (hlook.out r0 7 hr0 HK.out)
            rw [HX.out, HB.out, cd_first] at hrd0
            obtain ⟨l9, hl9⟩ : ∃ l9, l9 = T1.toList.drop (p + 9) := ⟨_, rfl⟩
            have hd9 : s.drop 9 = l9 := by rw [HS.out, List.drop_drop, hl9]
            rw [hd9] at hrd0
            simp only at hrd0
            have hcl := fun u => first_any T1 (p + 9) ⟨#[93, 93, 62]⟩ u (by omega) (by decide) (by omega)
            rw [show (⟨#[93, 93, 62]⟩ : ByteArray).toList = cdEnd from toList_strB [93, 93, 62], ← hl9] at hcl
            have hfl := firstN_le cdEnd l9
            obtain ⟨fn, hfn⟩ : ∃ fn, fn = firstN cdEnd l9 := ⟨_, rfl⟩
            rw [← hfn] at hcl hrd0 hfl
            have hrd := Lib.hid hrd0
            obtain ⟨f0, hf0⟩ : ∃ f0, f0 = p + 9 + fn := ⟨_, rfl⟩
            rw [← hf0] at hcl
            have HCL : Hid (∀ u, Calls Tryz.prog 33 #[.string T1, .int .i64 ((p : Int) + 9), .string ⟨#[93, 93, 62]⟩] u fun e w' => e = .returned (.int .i64 f0) ∧ u = w') := hcl
            have hsl : l9.length = T1.size - (p + 9) := by rw [hl9, List.length_drop, size_toList]
            have hfs : f0 ≤ T1.size := by omega
            obtain ⟨q, hq⟩ : ∃ q, q = min (f0 + 3) T1.size := ⟨_, rfl⟩
            have hqs : q ≤ T1.size := by omega
            have hpq : p < q := by omega
            have hmin : min ((f0 : Int) + 3) (T1.size : Int) = (q : Int) := by omega
            have HSU : Hid (l9.drop (fn + 3) = T1.toList.drop q) := by
              show _ = _
              rw [hl9, List.drop_drop, drop_min, hq, hf0, Nat.add_assoc (p + 9)]
            have hp9 : IntKind.i64.wrap ((p : Int) + 9) = (p : Int) + 9 := wrap_small _ (by omega) (by omega)
            have hf9 : IntKind.i64.wrap ((f0 : Int) + 3) = (f0 : Int) + 3 := wrap_small _ (by omega) (by omega)
            have hext : T1.extract (p + 9) f0 = strB (l9.take fn) := by rw [hf0, ext_mid, hl9]
            have HFN : Hid (l9.take fn ≠ [] ↔ 1 ≤ fn) := by
              show _ ↔ _
              rw [← List.length_pos_iff, List.length_take]
              omega
            have HF0 := Lib.hid hf0
            clear hcl hr0 hrd0 hq hfn hd9 hl9
            go_wp2_with fail
            refine (HCL.out _).mono ?_
            rintro r wx ⟨rfl, rfl⟩
            dsimp only
            clear HCL
            by_cases hz : 1 ≤ fn
            · have hgt : (p : Int) + 9 < (f0 : Int) := by omega
              have hle : (p : Int) + 9 ≤ (f0 : Int) := by omega
              have hfi : (f0 : Int) ≤ (T1.size : Int) := by omega
              have hrd1 : Hid (X = (some (textM (l9.take fn)), { m1 with buf := l9.drop (fn + 3), pass := 0 })) := by
                show _ = _
                rw [hrd.out, if_pos (HFN.out.2 hz)]
              clear hz hf0 hsl
              go_wp2_with fail
              have HW2 := Lib.hid (HW1.out.at (z := (q : Int)) (q := q) rfl)
              refine bodyPost_ret (results_attr rfl _ _ w.heap.size _ _ _ _ rfl (put5_at HW2.out.zero _ _ _ _ _) Tryz.underlying46 rfl mark_info) rfl ?_
              refine ⟨⟨⟨T1, q, mode, name, cdata, 0⟩, ?_, put5_row HW2.out.row hne2 _ _ _ _ _, rfl, HN.out⟩, put5_keeps HW2.out.keeps (Nat.le_refl _) _ _ _ _ _, next_some hrd1.out ⟨.slice none 0 0, rfl, World.ownsRow_nil _ _ _ _⟩⟩
              rw [hrd1.out]
              exact HM.out.go (q := q) rfl hqs HSU.out rfl rfl rfl rfl rfl rfl
            · have hgt : ¬ (p : Int) + 9 < (f0 : Int) := by omega
              have hrd1 : Hid (readF { m1 with buf := l9.drop (fn + 3), pass := 0 } = X) := by
                show _ = _
                rw [hrd.out, if_neg (fun h => hz (HFN.out.1 h))]
              clear hz hf0 hsl
              go_wp2_with fail
              go_roundg (2 * (T1.size - q) + 1)
              case measure => have := HG.out; simp at this; omega
              case rel =>
                refine ⟨⟨T1, q, mode, name, cdata, 0⟩, { m1 with buf := l9.drop (fn + 3), pass := 0 }, ?_, hrd1.out, rfl, HN.out, HW1.out.at (z := (q : Int)) (q := q) rfl, by show 2 * (T1.size - q) + (if (0 : Int) = 0 then 1 else 0) ≤ _; rw [if_pos rfl]; omega⟩
                exact HM.out.go (q := q) rfl hqs HSU.out rfl rfl rfl rfl rfl rfl
        · as_aux_lemma =>
            rw [hk, show codeF 8 = 7 from rfl]
            have HK := Lib.hid hk
            clear hk

            obtain ⟨r0, hr0⟩ := HWA.out (by rw [HK.out]; decide)
            have hrd0 := read_angle (j := 4) HR.out (HB.out.trans hr0) (hlook.out r0 8 hr0 HK.out) (.inr ⟨rfl, rfl⟩)
            rw [HX.out, HB.out, angle_first] at hrd0
            have hrd := Lib.hid hrd0
            have hcl := fun u => first_any T1 p ⟨#[62]⟩ u (by omega) (by decide) (by omega)
            rw [show (⟨#[62]⟩ : ByteArray).toList = [62] from toList_strB [62], ← HS.out] at hcl
            have hfl := firstN_le [62] s
            obtain ⟨fn, hfn⟩ : ∃ fn, fn = firstN [62] s := ⟨_, rfl⟩
            rw [← hfn] at hcl hrd hfl
            obtain ⟨f0, hf0⟩ : ∃ f0, f0 = p + fn := ⟨_, rfl⟩
            rw [← hf0] at hcl
            have HCL := Lib.hid hcl
            have hsl : s.length = T1.size - p := by rw [HS.out, List.length_drop, size_toList]
            have hfs : f0 ≤ T1.size := by omega
            obtain ⟨q, hq⟩ : ∃ q, q = min (f0 + 1) T1.size := ⟨_, rfl⟩
            have hqs : q ≤ T1.size := by omega
            have hmin : min ((f0 : Int) + 1) (T1.size : Int) = (q : Int) := by omega
            have HSU : Hid (s.drop (fn + 1) = T1.toList.drop q) := by
              show _ = _
              rw [HS.out, List.drop_drop, drop_min, hq, hf0, Nat.add_assoc]
            have hf9 : IntKind.i64.wrap ((f0 : Int) + 1) = (f0 : Int) + 1 := wrap_small _ (by omega) (by omega)
            clear hcl hr0 hrd0 hq hf0 hfn hsl hfl
            go_wp2_with fail
            refine (HCL.out _).mono ?_
            rintro r wx ⟨rfl, rfl⟩
            dsimp only
            clear HCL
            go_wp2_with fail
            have HW2 := Lib.hid (HW1.out.at (z := (q : Int)) (q := q) rfl)
            refine bodyPost_ret (results_attr rfl _ _ w.heap.size _ _ _ _ rfl (put5_at HW2.out.zero _ _ _ _ _) Tryz.underlying46 rfl mark_info) rfl ?_
            refine ⟨⟨⟨T1, q, mode, name, cdata, 0⟩, ?_, put5_row HW2.out.row hne2 _ _ _ _ _, rfl, HN.out⟩, put5_keeps HW2.out.keeps (Nat.le_refl _) _ _ _ _ _, next_some hrd.out ⟨.slice none 0 0, rfl, World.ownsRow_nil _ _ _ _⟩⟩
            rw [hrd.out]
            exact HM.out.go (q := q) rfl hqs HSU.out rfl rfl rfl rfl rfl rfl
end Go.Proofs.YtbabcohidpcjjaaGreat
