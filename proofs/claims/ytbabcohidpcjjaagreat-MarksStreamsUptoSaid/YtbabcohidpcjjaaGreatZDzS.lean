import Derived.Test.YtbabcohidpcjjaaGreatZAll
import Derived.Test.YtbabcohidpcjjaaGreatZMkHl
import Derived.Test.YtbabcohidpcjjaaGreatZRS
import Derived.Test.YtbabcohidpcjjaaGreatZLawS
/-
  The walk of MarksStreams: it returns true. (Seat 4's '.Z'.)
-/
namespace Go.Proofs.YtbabcohidpcjjaaGreat
open Go.RowKit Mem

def catS (l : List ByteArray) : Str := l.flatMap ByteArray.toList
theorem catS_next (l : List ByteArray) (k : Nat) (h : k < l.length) : catS (l.take (k + 1)) = catS (l.take k) ++ l[k].toList := by
  unfold catS
  rw [List.take_succ_eq_append_getElem h, List.flatMap_append]
  simp
theorem cell_far {u v : World} {B b o : Nat} {x : Value} (k : Keeps (Only B) u v) (hb : b < u.heap.size) (hne : b ≠ B) (h : u.cell? ⟨b, o, none⟩ = some x) : v.cell? ⟨b, o, none⟩ = some x := by
  unfold World.cell? at h ⊢
  rw [k.block b hb (by show ¬ b = B; exact hne)]
  exact h
theorem at_far {u v : World} {B : Nat} {a : Option Addr} {xs : List Value} (k : Keeps (Only B) u v) (h : At u a xs) (hB : ∀ x, a = some x → x.block ≠ B) : At v a xs := fun j x hj => by
  obtain ⟨b, o, e, hc⟩ := h j x hj
  exact ⟨b, o, e, cell_far k (lt_of_cell hc) (by have := hB _ e; exact this) hc⟩
/-- what a feed has told, as a slice whatever came of it -/
theorem drain_told9 {base : Nat} {o : List MarkD × MkM} {r : Ending} {w' : World} (h : DrainAt base o r w') :
    ∃ ao co L, r = .returned (.tuple #[.slice ao L.length co, .int .i64 o.2.err]) ∧ (o.2.err = 0 → L.map (·.1) = o.1) ∧ (o.2.err ≠ 0 → L = []) ∧ w'.ownsRow base 46 5 (.slice ao L.length co) L.length (marksV L) ∧ AtsOwn base L w' := by
  rcases h with ⟨h1, rfl⟩ | ⟨h1, v, L, rfl, h2, h3, h4⟩
  · exact ⟨none, 0, [], rfl, fun h => absurd h h1, fun _ => rfl, World.ownsRow_nil _ _ _ _, fun p hp => by cases hp⟩
  · obtain ⟨ao, co, hv, -⟩ := own_at h3
    subst hv
    exact ⟨ao, co, L, by rw [h1], fun _ => h2, fun h => absurd h1 h, h3, h4⟩
theorem dmarks_told {base : Nat} {o : List MarkD × Int} {r : Ending} {w' : World} (h : DMarksAt base o r w') :
    ∃ ao co L, r = .returned (.tuple #[.slice ao L.length co, .int .i64 o.2]) ∧ L.map (·.1) = o.1 ∧ w'.ownsRow base 46 5 (.slice ao L.length co) L.length (marksV L) ∧ AtsFar base w' L := by
  rcases h with ⟨h1, h2, rfl⟩ | ⟨h1, v, L, rfl, h2, h3, h4⟩
  · exact ⟨none, 0, [], rfl, by rw [h2]; rfl, World.ownsRow_nil _ _ _ _, fun p hp => (by cases hp), fun p hp => (by cases hp)⟩
  · obtain ⟨ao, co, hv, -⟩ := own_at h3
    subst hv
    exact ⟨ao, co, L, by rw [h1], h2, h3, h4⟩
theorem AtsFar.keeps {base B : Nat} {L : MS} {u v : World} (h : AtsFar base u L) (hB : B < base) (k : Keeps (Only B) u v) : AtsAt v L := fun p hp => by
  obtain ⟨ao, co, h1, h2, h3, h4⟩ := h.1 p hp
  refine ⟨ao, co, h1, h2, at_far k h3 fun x hx => ?_, h4⟩
  have := h.2 p hp x.block (by rw [h1, hx]; rfl)
  omega
set_option maxHeartbeats 2000000 in
theorem Held_any (m : MkM) (b : Nat) (w : World) (hr : Row w b (machV m)) : Calls Tryz.prog 13 #[.pointer (some ⟨b, 0, none⟩)] w fun r w' => r = .returned (.int .i64 (m.buf.length : Nat)) ∧ w = w' := by
  have c0 : w.cell? ⟨b, 0, none⟩ = some (.string (strB m.buf)) := hr.cell (j := 0) rfl
  clear hr
  go_enter Tryz.func13, Tryz.ntmps13
  go_wp2_with fail
  go_ret
  exact ⟨rfl, rfl⟩
set_option maxRecDepth 100000 in
set_option maxHeartbeats 16000000 in
theorem law_MarksStreams (w : World) (l : List ByteArray) (a0 : Option Addr) (c0 : Nat) (hln : l.length ≤ 1048576) (hsz : ∀ k (h : k < l.length), l[k].size ≤ 1048576) (hA : At w a0 (strsV l)) (y : Int) (hm : maxAt w y) :
    Calls Tryz.prog 4 #[.slice a0 l.length c0] w fun e w' => e = .returned (.bool true) ∧ Below w.heap.size w w' := by
  have HM := Lib.hid hm
  have HA := Lib.hid hA
  have HSZ := Lib.hid hsz
  obtain ⟨i0', hi, hi0, hi1', hi2⟩ := info_parts info_mark
  clear hm hA hsz
  go_enter Tryz.func4, Tryz.ntmps4
  go_wp2_with fail
  refine (shown_any y w HM.out).mono ?_
  rintro r W1 ⟨rfl, hb⟩
  have HM1 := Lib.hid (max_below HM.out hb)
  have HB1 := Lib.hid hb
  have hz1 := hb.size
  clear hb
  dsimp only
  go_wp2_with fail
  refine (Open_any W1).mono ?_
  rintro r W2 ⟨rfl, r2, hb⟩
  obtain ⟨B, hB⟩ : ∃ B, B = W1.heap.size := ⟨_, rfl⟩
  rw [← hB] at r2 ⊢
  have hBw : w.heap.size ≤ B := by rw [hB]; exact hz1
  have HM2 := Lib.hid (max_below HM1.out hb)
  have HB2 := Lib.hid (belowCall HB1.out hb)
  have HR2 := Lib.hid r2
  have hB2 := r2.lt
  clear r2 hb hB hz1 HB1 HM1
  dsimp only
  by_cases h2000 : 2000 < l.length
  · have h2i : (2000 : Int) < (l.length : Int) := by omega
    go_wp2_with fail
    go_ret
    exact ⟨rfl, HB2.out⟩
  · have h2i : ¬ (2000 : Int) < (l.length : Int) := by omega
    go_wp2_with fail
    go_loopg [5, 6] (l.length) (fun g tv iv wr => ∃ (k : Nat) (T : ByteArray), k ≤ l.length ∧ l.length - k ≤ g ∧ iv = .int .i64 k ∧ tv = .string T ∧ T.toList = catS (l.take k) ∧ T.size ≤ 1248576 ∧ W2 = wr)
    case atStart => exact ⟨0, ⟨#[]⟩, Nat.zero_le _, Nat.le_refl _, rfl, rfl, toList_strB [], Nat.zero_le _, rfl⟩
    case round =>
      obtain ⟨k, T, hk, hgk, rfl, rfl, ht, htz, rfl⟩ := hrel
      have HTX := Lib.hid ht
      clear ht
      by_cases hkl : k < l.length
      · have hki : (k : Int) < (l.length : Int) := by omega
        obtain ⟨ab, ao, rfl, _, k0⟩ := str_cell (HA.out.below HB2.out) hkl
        have hls := HSZ.out k hkl
        have hcn := catS_next l k hkl
        generalize l[k] = p at *
        have HCN := Lib.hid hcn
        clear hcn
        by_cases h200 : 200000 < T.size
        · have h200i : (200000 : Int) < (T.size : Int) := by omega
          go_wp2_with fail
          go_ret
          exact ⟨rfl, HB2.out⟩
        · have h200i : ¬ (200000 : Int) < (T.size : Int) := by omega
          have hno : ¬ 9223372036854775807 < T.size + p.size := by omega
          go_wp2_with fail
          go_roundg (l.length - (k + 1))
          case measure => omega
          case rel => exact ⟨k + 1, T ++ p, by omega, Nat.le_refl _, by go_num, rfl, by rw [toList_append', HTX.out, HCN.out], by rw [ByteArray.size_append]; omega, rfl⟩
      · obtain rfl : k = l.length := by omega
        have hki : ¬ (l.length : Int) < (l.length : Int) := by omega
        have HCAT : Hid (T.toList = catS l) := by show _ = _; rw [HTX.out, List.take_length]
        clear HTX
        go_wp2_with fail
        refine (dAll_any T W2 (by omega)).mono ?_
        rintro r W3 ⟨hr, hb⟩
        have hff := (marksF_ok T.toList).2.1
        have hfl := marksF_len T.toList
        rw [size_toList] at hfl
        obtain ⟨p, hp⟩ : ∃ p, p = marksF T.toList := ⟨_, rfl⟩
        rw [← hp] at hr hff hfl
        obtain ⟨wo, wc, M, rfl, hml, hmo, hmf⟩ := dmarks_told hr
        obtain ⟨er, her⟩ : ∃ er, er = p.2 := ⟨_, rfl⟩
        rw [← her]
        have HER := Lib.hid her
        have HP := Lib.hid hp
        have HML := Lib.hid hml
        have HMO := Lib.hid hmo
        have HMF := Lib.hid hmf
        have HFF := Lib.hid hff
        have HM3 := Lib.hid (max_below HM2.out hb)
        have HB3 := Lib.hid (belowCall HB2.out hb)
        have HR3 := Lib.hid (HR2.out.kept (hb.block B hB2))
        have hz3 := hb.size
        have hB3 : B < W3.heap.size := by omega
        have hlm : M.length ≤ 10000000000 := by
          have := congrArg List.length HML.out
          rw [List.length_map] at this
          omega
        have hee : (er != er) = false := by simp
        have hTL : T.size ≤ 1248576 := htz
        clear hr hff hfl hp hml hmo hmf hb her
        dsimp only
        go_wp2_with fail
        go_loopg [9] 2 (fun g v wr => ∃ k : Nat, k ≤ 2 ∧ 2 - k ≤ g ∧ v = .int .i64 k ∧ Row wr B (machV zeroM) ∧ Keeps (Only B) W3 wr)
        case atStart => exact ⟨0, by omega, Nat.le_refl _, rfl, HR3.out, Keeps.refl _ _⟩
        case round =>
          obtain ⟨k, hk, hgk, rfl, hrr, hkk⟩ := hrel
          have HRr := Lib.hid hrr
          have HKr := Lib.hid hkk
          have hzr := hkk.size
          have hBr := hrr.lt
          clear hrr hkk
          by_cases hk2 : k < 2
          · have hki : (k : Int) < 2 := by omega
            go_wp2_with fail
            rename World => Wk
            go_loopg [10, 11, 12] (l.length) (fun g av bv iv wi => ∃ (j : Nat) (AL : MS) (m : MkM), j ≤ l.length ∧ l.length - j ≤ g ∧ iv = .int .i64 j ∧ bv = .int .i64 m.err ∧ Pcz (catS (l.take j)) (AL.map (·.1)) m j ∧ Row wi B (machV m) ∧ Keeps (Only B) Wk wi ∧ wi.ownsRow Wk.heap.size 46 5 av AL.length (marksV AL) ∧ AtsOwn Wk.heap.size AL wi)
            case atStart => exact ⟨0, [], zeroM, Nat.zero_le _, Nat.le_refl _, rfl, rfl, Pcz.start, HRr.out, Keeps.refl _ _, World.ownsRow_nil _ _ _ _, fun p hp => (by cases hp)⟩
            case round =>
              obtain ⟨j, AL, m, hj, hgj, rfl, rfl, hpc, hri, hki2, hoi, hai⟩ := hrel
              have HPC := Lib.hid hpc
              have HRi := Lib.hid hri
              have HKi := Lib.hid hki2
              have HOi := Lib.hid hoi
              have HAi := Lib.hid hai
              have hzi := hki2.size
              have HK3 := Lib.hid (HKr.out.trans hki2)
              have HMi := Lib.hid (max_keeps HM3.out HR3.out HK3.out)
              have hheld := hpc.held
              have hname := hpc.name
              have hcnt := hpc.cnt
              have htxt := hpc.txt
              have htk : (catS (l.take j)).length ≤ T.size := by
                rw [← size_toList, HCAT.out]
                unfold catS
                have := congrArg (fun z => (List.flatMap ByteArray.toList z).length) (List.take_append_drop j l)
                simp only [List.flatMap_append, List.length_append] at this
                omega
              obtain ⟨ua, uc, hu, -, -, -, -⟩ := own_at hoi
              clear hpc hri hki2 hoi hai
              by_cases hjl : j < l.length
              · have hji : (j : Int) < (l.length : Int) := by omega
                obtain ⟨ab, ao, rfl, hab, k0⟩ := str_cell HA.out hjl
                have k0 := cell_far HK3.out (Nat.lt_of_lt_of_le hab HB3.out.size) (by omega) (cell_later HB3.out k0)
                have hls := HSZ.out j hjl
                have hcn := catS_next l j hjl
                have hrest : ∃ r, T.toList = catS (l.take (j + 1)) ++ r := ⟨catS (l.drop (j + 1)), by
                  rw [HCAT.out]
                  unfold catS
                  rw [← List.flatMap_append, List.take_append_drop]⟩
                have hfd := HPC.out.feed l[j].toList
                rw [← hcn] at hfd
                generalize l[j] = pc at *
                have hF := Feed_any m B y pc wr HRi.out HMi.out (by omega) (by omega)
                obtain ⟨o, ho⟩ : ∃ o, o = drainF (feedF m pc.toList) := ⟨_, rfl⟩
                rw [← ho] at hF hfd
                have HF := Lib.hid hF
                have HFD := Lib.hid hfd
                have HREST := Lib.hid hrest
                clear hF hfd ho hcn hrest
                go_wp2_with fail
                refine HF.out.mono ?_
                rintro r W5 ⟨hd, r5, k5⟩
                obtain ⟨fo, fc, LF, rfl, hfm, hfe, hfo, hfats⟩ := drain_told9 hd
                obtain ⟨hf0, hfat⟩ := own_at2 hfo
                have HK5 := Lib.hid (HKi.out.trans k5)
                have HR5 := Lib.hid r5
                have hBk : B < Wk.heap.size := by omega
                have HO5 := Lib.hid (own_kept (w' := W5) HOi.out fun g hg => k5.block g (HOi.out.lt g hg).2 (by show ¬ g = B; have := (HOi.out.lt g hg).1; omega))
                have HA5 := Lib.hid (HAi.out.keeps hBk k5)
                have HFA := Lib.hid hfat
                have HFL := Lib.hid (hfats.base hzi)
                have HF1 := Lib.hid (marksV_one hfats)
                have HZ5 := Lib.hid (Nat.le_trans hzi k5.size)
                have hnew : Pcz (catS (l.take (j + 1))) ((AL ++ LF).map (·.1)) o.2 (j + 1) ∧ ((o.2.err = 0 ∧ m.err = 0) ∨ (o.2.err ≠ 0 ∧ o.2.err = er ∧ LF.length = 0 ∧ (m.err ≠ 0 → o.2.err = m.err))) := by
                  rw [List.map_append]
                  rcases HFD.out with ⟨q1, q2, q3⟩ | ⟨q1, q2, q3⟩
                  · rw [hfe q1, List.map_nil, List.append_nil]
                    refine ⟨q2, .inr ⟨q1, ?_, rfl, q3⟩⟩
                    obtain ⟨rs, hrs⟩ := HREST.out
                    have := q2.st.err' q1 rs
                    rw [← hrs, ← HP.out, ← HER.out] at this
                    exact this.symm
                  · rw [hfm q1]
                    exact ⟨q3, .inl ⟨q1, q2⟩⟩
                obtain ⟨hpc', hcase⟩ := hnew
                have HPC' := Lib.hid hpc'
                have hheld5 := hpc'.held
                have hcnt5 := hpc'.cnt
                have htk5 : (catS (l.take (j + 1))).length ≤ T.size := by
                  obtain ⟨rs, hrs⟩ := HREST.out
                  rw [← size_toList, hrs, List.length_append]
                  omega
                rw [List.length_map, List.length_append] at hcnt5
                have hb3 : AL.length + LF.length ≤ maxLen := by unfold maxLen; omega
                have hb4 : (AL.length + LF.length) * 72 ≤ 140737488355328 := by omega
                have HHE := Lib.hid (Held_any o.2 B W5 r5)
                clear hd r5 hfm hfe hfo hfat hfats hpc' hcnt5 htk5 HF HFD HREST
                obtain ⟨f, hf⟩ : ∃ f, f = o.2.err := ⟨_, rfl⟩
                obtain ⟨bad, hbad⟩ : ∃ bad, bad = m.err := ⟨_, rfl⟩
                obtain ⟨hl, hhl⟩ : ∃ hl, hl = o.2.buf.length := ⟨_, rfl⟩
                rw [← hf] at hcase ⊢
                rw [← hbad] at hcase ⊢
                rw [← hhl] at hheld5 HHE
                have HF2 := Lib.hid hf
                clear hf hbad hhl k5
                have hh0 : ¬ (hl : Int) < 0 := by omega
                have hh1 : ¬ (2048 : Int) < (hl : Int) := by omega
                dsimp only
                go_wp2_with fail
                refine HHE.out.mono ?_
                rintro r W5' ⟨rfl, rfl⟩
                dsimp only
                clear HHE
                have hrel5 : Hid (∀ v6 w6, w6.ownsRow Wk.heap.size 46 5 v6 (AL.length + LF.length) (marksV AL ++ marksV LF) → W5.grownBy w6 (Value.ownBlock (.slice ua AL.length uc)) → ∃ (j' : Nat) (AL' : MS) (m' : MkM), j' ≤ l.length ∧ l.length - j' ≤ l.length - (j + 1) ∧ Value.int .i64 ((j : Int) + 1) = .int .i64 j' ∧ Value.int .i64 f = .int .i64 m'.err ∧ Pcz (catS (l.take j')) (AL'.map (·.1)) m' j' ∧ Row w6 B (machV m') ∧ Keeps (Only B) Wk w6 ∧ w6.ownsRow Wk.heap.size 46 5 v6 AL'.length (marksV AL') ∧ AtsOwn Wk.heap.size AL' w6) := fun v6 w6 hown6 hgr6 => by
                  subst hu
                  rw [← marksV_append, ← List.length_append] at hown6
                  exact ⟨j + 1, AL ++ LF, o.2, by omega, Nat.le_refl _, by go_num, by rw [HF2.out], HPC'.out, HR5.out.kept (hgr6.block B HR5.out.lt fun e => absurd (HO5.out.lt B e.symm).1 (Nat.not_le_of_lt hBk)), keeps_grow HK5.out hgr6 (fun k hk => (HO5.out.lt k hk).1), hown6, fun x hx => (List.mem_append.1 hx).elim (HA5.out.grown HO5.out hgr6 x) (HFL.out.grown HO5.out hgr6 x)⟩
                subst hu
                rcases hcase with ⟨rfl, rfl⟩ | ⟨hf0', rfl, hl0, hbf⟩
                · go_wp2_with (at_builtin; go_must (refine wpList_append_slice _ rfl _ _ 23 rfl Wk.heap.size 46 i0' _ 5 72 Tryz.underlying23 hi hi0 hi1' hi2 rfl (by decide) _ AL.length _ rfl HO5.out fo LF.length fc (marksV LF) rfl (marksV_length LF) hf0 HFA.out HF1.out hb3 hb4 HZ5.out ?_; intro v6 w6 hown6 hgr6; have HREL := Lib.hid (hrel5.out v6 w6 hown6 hgr6); clear hown6 hgr6))
                  go_roundg (l.length - (j + 1))
                  case measure => omega
                  case rel => exact HREL.out
                · have e1 : (f != 0) = true := bne_iff_ne.2 hf0'
                  have e2 : ((LF.length : Int) != 0) = false := by rw [hl0]; rfl
                  by_cases hbz : bad = 0
                  · have e3 : (bad != 0) = false := by rw [hbz]; rfl
                    clear hbz hbf hl0 hf0'
                    go_wp2_with (at_builtin; go_must (refine wpList_append_slice _ rfl _ _ 23 rfl Wk.heap.size 46 i0' _ 5 72 Tryz.underlying23 hi hi0 hi1' hi2 rfl (by decide) _ AL.length _ rfl HO5.out fo LF.length fc (marksV LF) rfl (marksV_length LF) hf0 HFA.out HF1.out hb3 hb4 HZ5.out ?_; intro v6 w6 hown6 hgr6; have HREL := Lib.hid (hrel5.out v6 w6 hown6 hgr6); clear hown6 hgr6))
                    go_roundg (l.length - (j + 1))
                    case measure => omega
                    case rel => exact HREL.out
                  · have e3 : (bad != 0) = true := bne_iff_ne.2 hbz
                    have e4 := hbf hbz
                    have e5 : (f != bad) = false := by rw [e4]; simp
                    clear hbz hbf hl0 hf0' e4
                    go_wp2_with (at_builtin; go_must (refine wpList_append_slice _ rfl _ _ 23 rfl Wk.heap.size 46 i0' _ 5 72 Tryz.underlying23 hi hi0 hi1' hi2 rfl (by decide) _ AL.length _ rfl HO5.out fo LF.length fc (marksV LF) rfl (marksV_length LF) hf0 HFA.out HF1.out hb3 hb4 HZ5.out ?_; intro v6 w6 hown6 hgr6; have HREL := Lib.hid (hrel5.out v6 w6 hown6 hgr6); clear hown6 hgr6))
                    go_roundg (l.length - (j + 1))
                    case measure => omega
                    case rel => exact HREL.out
              · obtain rfl : j = l.length := by omega
                have hji : ¬ (l.length : Int) < (l.length : Int) := by omega
                have hpcT := HPC.out
                rw [List.take_length, ← HCAT.out] at hpcT
                have hcl := hpcT.st.close
                rw [← HP.out, ← HER.out] at hcl
                have hfew := hpcT.few
                have hC := Close_any m B y wr HRi.out HMi.out (by omega) (by omega)
                have hqr := drainF_room _ { m with closed := true } (Nat.le_refl _) (by show m.name.length ≤ _; omega)
                have hqd := doM_le { m with closed := true }
                have hqf := drainF_few9 { m with closed := true }
                obtain ⟨q, hq⟩ : ∃ q, q = drainF { m with closed := true } := ⟨_, rfl⟩
                rw [← hq] at hC hcl hqr hqf
                have hqn : q.1.length ≤ 5000 ∧ tlen q.1 ≤ 5000 := by
                  have hbb : ({ m with closed := true } : MkM).buf.length = m.buf.length := rfl
                  rw [hbb] at hqd hqr
                  constructor <;> omega
                have HQF := Lib.hid hqf
                have HQN := Lib.hid hqn
                have HFEW := Lib.hid hfew
                have HCL := Lib.hid hcl
                have HC := Lib.hid hC
                have hBk : B < Wk.heap.size := by omega
                rw [List.length_map] at hcnt
                have hALn : AL.length ≤ 20000000 := by omega
                have hALt : tlen (AL.map (·.1)) ≤ 20000000 := by omega
                clear hpcT hcl hfew hC hqr hqd hqf hq hqn htk
                go_wp2_with fail
                refine HC.out.mono ?_
                rintro r W6 ⟨hd, r6, k6⟩
                obtain ⟨co, cc, LC, rfl, hcm, hce, hco, hcats⟩ := drain_told9 hd
                rw [HCL.out.1] at hcm hce ⊢
                have HHE : Hid (Calls Tryz.prog 13 #[.pointer (some ⟨B, 0, none⟩)] W6 fun r w' => r = .returned (.int .i64 0) ∧ W6 = w') := Held_any zeroM B W6 r6
                have HR6 := Lib.hid r6
                have HK36 := Lib.hid (HK3.out.trans k6)
                have HO6 := Lib.hid (own_kept (w' := W6) HOi.out fun g hg => k6.block g (HOi.out.lt g hg).2 (by show ¬ g = B; have := (HOi.out.lt g hg).1; omega))
                have HA6 := Lib.hid (HAi.out.keeps hBk k6)
                have HCM := Lib.hid hcm
                have HCO := Lib.hid hco
                have HCT := Lib.hid (hcats.base hzi)
                have HC1 := Lib.hid (marksV_one hcats)
                obtain ⟨hc0, hcat⟩ := own_at2 hco
                have HCAT6 := Lib.hid hcat
                have hz6 := Nat.le_trans hzi k6.size
                clear hd r6 k6 hcm hco hcats hcat HC
                dsimp only
                go_wp2_with fail
                refine HHE.out.mono ?_
                rintro r W6' ⟨rfl, rfl⟩
                clear HHE
                dsimp only
                by_cases he0 : er = 0
                · have e1 : (er != 0) = false := by rw [he0]; rfl
                  have hLC := HCM.out he0
                  have hjn := (HCL.out.2 he0).2
                  have hcq : LC.length ≤ 5000 := by have := congrArg List.length hLC; rw [List.length_map] at this; have := HQN.out.1; omega
                  have hb3 : AL.length + LC.length ≤ maxLen := by unfold maxLen; omega
                  have hb4 : (AL.length + LC.length) * 72 ≤ 140737488355328 := by omega
                  have hmap : (AL ++ LC).map (·.1) = AL.map (·.1) ++ q.1 := by rw [List.map_append, hLC]
                  have HTL : Hid (tlen ((AL ++ LC).map (·.1)) ≤ 1099511627776) := by show _ ≤ _; rw [hmap, tlen_append]; have := HQN.out.2; omega
                  have HLL : Hid ((AL ++ LC).length ≤ 10000000000) := by show _ ≤ _; rw [List.length_append]; omega
                  have HJ : Hid (joinF [] ((AL ++ LC).map (·.1)) = M.map (·.1)) := by show _ = _; rw [hmap, hjn, HML.out]
                  have HFC : Hid (∀ x ∈ LC, x.1.attrs.length ≤ 8) := fun x hx => HQF.out x.1 (by rw [← hLC]; exact List.mem_map_of_mem hx)
                  have HFA8 : Hid (∀ x ∈ AL, x.1.attrs.length ≤ 8) := fun x hx => HFEW.out x.1 (List.mem_map_of_mem hx)
                  subst hu
                  clear he0 hLC hjn hmap hcq hcnt htxt
                  go_wp2_with (at_builtin; go_must (refine wpList_append_slice _ rfl _ _ 23 rfl Wk.heap.size 46 i0' _ 5 72 Tryz.underlying23 hi hi0 hi1' hi2 rfl (by decide) _ AL.length _ rfl HO6.out co LC.length cc (marksV LC) rfl (marksV_length LC) hc0 HCAT6.out HC1.out hb3 hb4 hz6 ?_; intro v7 w7 hown7 hgr7; rw [← marksV_append] at hown7; obtain ⟨a7, c7, hv7, -, -, -, hat7⟩ := own_at hown7; subst hv7; have HAT7 := Lib.hid hat7; have HG7 := Lib.hid hgr7; clear hown7 hgr7 hat7))
                  have HAA7 : Hid (AtsAt w7 (AL ++ LC)) := fun x hx => by
                    rcases List.mem_append.1 hx with hx | hx
                    · exact ats_at (L := AL) (HA6.out.grown HO6.out HG7.out) HFA8.out x hx
                    · exact ats_at (L := LC) (HCT.out.grown HO6.out HG7.out) HFC.out x hx
                  have hJ := dJoin_any (AL ++ LC) a7 c7 w7 HAT7.out HAA7.out HLL.out HTL.out
                  rw [HJ.out, List.length_append] at hJ
                  have HJJ := Lib.hid hJ
                  have HK37 := Lib.hid (keeps_grow HK36.out HG7.out (fun k hk => by have := (HO6.out.lt k hk).1; omega))
                  have HR7 := Lib.hid (HR6.out.kept (HG7.out.block B HR6.out.lt fun e => absurd (HO6.out.lt B e.symm).1 (Nat.not_le_of_lt hBk)))
                  clear hJ HAT7 HAA7 HLL HTL HJ
                  refine HJJ.out.mono ?_
                  rintro r w8 ⟨v8, Lo, rfl, hlo, hown8, hats8, -, hb8⟩
                  obtain ⟨ja, jc, hv8, -, -, -, jat⟩ := own_at hown8
                  subst hv8
                  have HK38 := Lib.hid (keeps_then' HK37.out hb8)
                  have HR8 := Lib.hid (HR7.out.below hb8 HR7.out.lt)
                  have hMO := (own_at2 (own_kept (w' := w8) HMO.out fun g hg => HK38.out.block g (HMO.out.lt g hg).2 (by show ¬ g = B; have := (HMO.out.lt g hg).1; omega))).2
                  have hLoM : Lo.length ≤ 10000000000 := by
                    have := congrArg List.length hlo
                    rw [List.length_map, List.length_map] at this
                    omega
                  have HSAME := Lib.hid (Same_any Lo M ja wo jc wc w8 jat hats8 hMO (HMF.out.keeps hB2 HK38.out) hLoM hlm)
                  have HLO := Lib.hid hlo
                  clear hlo hown8 hats8 hb8 jat hMO HJJ
                  dsimp only
                  go_wp2_with fail
                  refine HSAME.out.mono ?_
                  rintro r w9 ⟨rfl, hb9⟩
                  rw [decide_eq_true HLO.out]
                  have HK39 := Lib.hid (keeps_then' HK38.out hb9)
                  have HR9 := Lib.hid (HR8.out.below hb9 HR8.out.lt)
                  clear hb9 HSAME
                  dsimp only
                  go_wp2_with fail
                  go_roundg (2 - (k + 1))
                  case measure => omega
                  case rel => exact ⟨k + 1, by omega, Nat.le_refl _, by go_num, HR9.out, HK39.out⟩
                · have e1 : (er != 0) = true := bne_iff_ne.2 he0
                  have hl0 := hce he0
                  have e2 : ((LC.length : Int) != 0) = false := by rw [hl0]; rfl
                  clear he0 hl0 hce
                  go_wp2_with fail
                  go_roundg (2 - (k + 1))
                  case measure => omega
                  case rel => exact ⟨k + 1, by omega, Nat.le_refl _, by go_num, HR6.out, HK36.out⟩
          · have hki : ¬ (k : Int) < 2 := by omega
            go_wp2_with fail
            go_ret
            exact ⟨rfl, below_keeps HB3.out hBw HKr.out⟩
end Go.Proofs.YtbabcohidpcjjaaGreat
