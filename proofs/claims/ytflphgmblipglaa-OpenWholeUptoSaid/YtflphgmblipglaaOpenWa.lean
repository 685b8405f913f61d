/-
  The walk of OpenWhole: the steps are done on a tree.
-/
import Derived.Test.YtflphgmblipglaaOpenWp
import Derived.Test.YtflphgmblipglaaOpenP
namespace Go.Proofs.Ytflphgmblipglaa
open Go.RowKit Mem

set_option maxRecDepth 100000 in
set_option maxHeartbeats 16000000 in
theorem lawWhole (l : List OpD) (a : Option Addr) (c : Nat) (w : World) (hl : l.length ≤ 1048576) (hs : ∀ k (h : k < l.length), l[k].s.size ≤ 1048576 ∧ l[k].attrs.length ≤ 1048576) (hc : l.length ≤ c) (hcm : c ≤ maxLen) (ha : OpsAt w a l) :
    Calls Try.prog 8 #[.slice a l.length c] w fun e w' => e = .returned (.bool true) ∧ Below w.heap.size w w' := by
  have HA := Lib.hid ha
  have HS := Lib.hid hs
  unfold maxLen at hcm
  clear ha hs
  go_enter Try.func8, Try.ntmps8
  go_wp2_with fail
  refine (shown14_any _).mono ?_
  rintro e w1 ⟨rfl, hb1⟩
  have HB1 := Lib.hid hb1
  have HNew := Lib.hid (New_ti 300 (by decide) w w1 hb1)
  clear hb1
  go_wp2_with fail
  refine HNew.out.mono ?_
  rintro e w2 ⟨tb, g2, rfl, hT2, _⟩
  have HT2 := Lib.hid hT2
  clear hT2 HNew HB1
  go_wp2_with fail
  go_loopw [5] (fun i wr => ∃ k : Nat, k ≤ l.length ∧ i = .int .i64 k ∧ ∃ T g, TI w (k * 1048576) tb T g wr ∧ Lm 300 T) (fun i _ => l.length - (intOf i).toNat)
  case atStart => exact ⟨0, Nat.zero_le _, rfl, ⟨[rootN], 300⟩, g2, HT2.out, by simp [Lm]⟩
  case round =>
    obtain ⟨k, hk, rfl, T, g, hT, hLm⟩ := hrel
    have HT := Lib.hid hT
    have HLm := Lib.hid hLm
    clear hT hLm
    by_cases hlt : k < l.length
    · obtain ⟨b, o, aa, ac, rfl, p1, p2, p3⟩ := (HA.out.below HT.out.below).ops k hlt
      have d0 := p3 0 _ rfl
      have d1 := p3 1 _ rfl
      have d2 := p3 2 _ rfl
      have d3 := p3 3 _ rfl
      have d4 := p3 4 _ rfl
      have d5 := p3 5 _ rfl
      rw [Nat.add_zero] at d0
      obtain ⟨x, hx⟩ : ∃ x, x = l[k] := ⟨_, rfl⟩
      obtain ⟨q1, q2⟩ := HS.out k hlt
      rw [← hx] at d0 d1 d2 d3 d4 d5 p2 q1 q2
      have P1 := Lib.hid p1
      have P2 := Lib.hid p2
      clear p3 hx p1 p2
      have hb := (Below.refl wr.heap.size wr).alloc (Nat.le_refl _) (.cells #[.int .i64 x.kind, .int .i64 x.a, .int .i64 x.b, .int .i64 x.c, .string x.s, .slice aa x.attrs.length ac] 41)
      have HW := Lib.hid (HT.out.world hb)
      have HP := Lib.hid (at_later P2.out (Keeps.ofBelow hb))
      clear hb
      by_cases k0 : x.kind = 0
      · have HC := Lib.hid (Elem_ti HW.out x.a x.s x.attrs _ aa ac rfl P1.out q2 HP.out)
        have HL3 := Lib.hid (mkF_lm (elemN x.a x.s x.attrs) HLm.out)
        rw [k0] at d0 HC
        go_wp2_with fail
        refine HC.out.mono ?_
        rintro e w3 ⟨rfl, _, g3, hT3⟩
        have HT3 := Lib.hid (hT3.more (B' := (k + 1) * 1048576) (by omega))
        clear hT3 HC
        go_wp2_with fail
        go_roundw
        case rel => exact ⟨k + 1, by omega, by go_num, _, _, HT3.out, HL3.out⟩
        case measure => simp [intOf]; omega
      have n0 : (x.kind == 0) = false := by simpa using k0
      by_cases k1 : x.kind = 1
      · have HC := Lib.hid (Like_ti HW.out x.a)
        have HL3 := Lib.hid (likeF_lm x.a HLm.out)
        rw [k1] at d0 HC
        go_wp2_with fail
        refine HC.out.mono ?_
        rintro e w3 ⟨rfl, _, g3, hT3⟩
        have HT3 := Lib.hid (hT3.more (B' := (k + 1) * 1048576) (by omega))
        clear hT3 HC
        go_wp2_with fail
        go_roundw
        case rel => exact ⟨k + 1, by omega, by go_num, _, _, HT3.out, HL3.out⟩
        case measure => simp [intOf]; omega
      have n1 : (x.kind == 1) = false := by simpa using k1
      by_cases k2 : x.kind = 2
      · have HC := Lib.hid (Put_ti HW.out x.a x.b x.c)
        have HL3 := Lib.hid (putE_lm x.a x.b x.c HLm.out)
        rw [k2] at d0 HC
        go_wp2_with fail
        refine HC.out.mono ?_
        rintro e w3 ⟨rfl, _, hT3⟩
        have HT3 := Lib.hid (hT3.more (B' := (k + 1) * 1048576) (by omega))
        clear hT3 HC
        go_wp2_with fail
        go_roundw
        case rel => exact ⟨k + 1, by omega, by go_num, _, _, HT3.out, HL3.out⟩
        case measure => simp [intOf]; omega
      have n2 : (x.kind == 2) = false := by simpa using k2
      by_cases k3 : x.kind = 3
      · have HC := Lib.hid (Text_ti (B' := (k + 1) * 1048576) HW.out x.a x.b x.s (by omega) (by omega))
        have HL3 := Lib.hid (textE_lm x.a x.b x.s HLm.out)
        rw [k3] at d0 HC
        go_wp2_with fail
        refine HC.out.mono ?_
        rintro e w3 ⟨rfl, _, g3, hT3⟩
        have HT3 := Lib.hid (hT3)
        clear hT3 HC
        go_wp2_with fail
        go_roundw
        case rel => exact ⟨k + 1, by omega, by go_num, _, _, HT3.out, HL3.out⟩
        case measure => simp [intOf]; omega
      have n3 : (x.kind == 3) = false := by simpa using k3
      by_cases k4 : x.kind = 4
      · have HC := Lib.hid (Move_ti HW.out x.a x.b)
        have HL3 := Lib.hid (moveE_lm x.a x.b HLm.out)
        rw [k4] at d0 HC
        go_wp2_with fail
        refine HC.out.mono ?_
        rintro e w3 ⟨rfl, _, hT3⟩
        have HT3 := Lib.hid (hT3.more (B' := (k + 1) * 1048576) (by omega))
        clear hT3 HC
        go_wp2_with fail
        go_roundw
        case rel => exact ⟨k + 1, by omega, by go_num, _, _, HT3.out, HL3.out⟩
        case measure => simp [intOf]; omega
      have n4 : (x.kind == 4) = false := by simpa using k4
      by_cases k5 : x.kind = 5
      · have HC := Lib.hid (Take_ti HW.out x.a)
        have HL3 := Lib.hid (takeE_lm x.a HLm.out)
        rw [k5] at d0 HC
        go_wp2_with fail
        refine HC.out.mono ?_
        rintro e w3 ⟨rfl, _, hT3⟩
        have HT3 := Lib.hid (hT3.more (B' := (k + 1) * 1048576) (by omega))
        clear hT3 HC
        go_wp2_with fail
        go_roundw
        case rel => exact ⟨k + 1, by omega, by go_num, _, _, HT3.out, HL3.out⟩
        case measure => simp [intOf]; omega
      have n5 : (x.kind == 5) = false := by simpa using k5
      clear k0 k1 k2 k3 k4 k5
      have HT3 := Lib.hid (HW.out.more (B' := (k + 1) * 1048576) (by omega))
      go_wp2_with fail
      go_roundw
      case rel => exact ⟨k + 1, by omega, by go_num, _, _, HT3.out, HLm.out⟩
      case measure => simp [intOf]; omega
    · obtain ⟨N, hN⟩ : ∃ N, N = T.nodes.length := ⟨_, rfl⟩
      have hLm := HLm.out.1
      have hpos := HT.out.wf.pos
      rw [← hN] at hLm hpos
      have hN301 : N ≤ 301 := by omega
      have HLen : Hid (∀ u, TreeO u tb g T → Calls Try.prog 35 #[.pointer (some ⟨tb, 0, none⟩)] u fun e w' => e = .returned (.int .i64 ((N : Int) - 1)) ∧ u = w') := Lib.hid (fun u hu => by rw [hN]; exact len_any T tb g u hu)
      have HT1 := HT
      have HN := Lib.hid hN
      have hw1 : IntKind.i64.wrap ((N : Int) - 1 + 1) = (N : Int) := by rw [IntKind.wrap_i64]; omega
      have hw2 : IntKind.i64.wrap (N : Int) = (N : Int) := by rw [IntKind.wrap_i64]; omega
      obtain ⟨i0, hi0, hz0, hz1, hz2⟩ := info_parts info_int
      have hb2 : i0.bytes * N ≤ 281474976710656 := by rw [hz2]; omega
      have hb3 : N ≤ maxLen := by unfold maxLen; omega
      clear hN HLm HA HS HT2
      go_wp2_with (first | (go_at_call 35; go_must (refine (HLen.out _ (by first | exact HT.out.tree | exact HT4.out.tree)).mono ?_; rintro e w3 ⟨rfl, rfl⟩)) | (at_make; go_must (refine wpList_make_full _ rfl _ _ 50 rfl wr.heap.size 3 i0 _ 1 Try.underlying50 hi0 hz0 hz1 .i64 .i64 (N : Int) (N : Int) N rfl rfl rfl rfl hb2 hb3 (by simp) ?_; intro w4 hown hgr; have HO := Lib.hid hown; have HB4 := Lib.hid ((Below.refl wr.heap.size wr).grown hgr (Nat.le_refl _) (fun k hk => by cases hk)); have HT4 := Lib.hid (HT.out.world HB4.out); clear hown hgr hi0 hz0 hz1 hz2 hb2 hb3)))
      generalize hsb : wr.heap.size = sb at HO ⊢
      have HSB := Lib.hid hsb.symm
      clear hsb
      have HPar : Hid (∀ (x : Int) (m : Nat), 1 ≤ x → x < N → parentF T x = m → ∀ u, TreeO u tb g T → Calls Try.prog 37 #[.pointer (some ⟨tb, 0, none⟩), .int .i64 x] u fun e w' => e = .returned (.int .i64 m) ∧ u = w') := Lib.hid (fun x m h1 h2 h3 u hu => by
        have := parent_any T tb g u x hu
        have hf : isF T x = true := by have := HN.out; simp [isF]; omega
        rw [hf, if_pos rfl, h3] at this
        exact this)
      obtain ⟨wA, rfl⟩ : ∃ wA : World, wA = wr := ⟨_, rfl⟩
      go_loopw [8] (fun i wr2 => ((∃ m : Nat, m < N ∧ i = .int .i64 m) ∨ i = .int .i64 (-1)) ∧ Below w4.heap.size w4 wr2) (fun i _ => (intOf i + 1).toNat)
      case atStart => exact ⟨.inl ⟨N - 1, by omega, congrArg (Value.int .i64) (by omega)⟩, Below.refl _ _⟩
      case round =>
        obtain ⟨hi, hbr⟩ := hrel
        have HBr := Lib.hid hbr
        clear hbr
        rcases hi with ⟨m, hm, rfl⟩ | rfl
        · have HTr := Lib.hid (HT4.out.world HBr.out)
          obtain ⟨q, hq⟩ : ∃ q, q = kidsF T m := ⟨_, rfl⟩
          have HK := Lib.hid (kids_any T tb g _ m HTr.out.tree (fun i hi => by
            have := kids_short HTr.out.wf i hi
            rw [kidsF_of T i hi] at this
            have := HTr.out.len
            omega))
          have hqq : kidsQ T m = q := by rw [kidsQ, if_pos (by have := HN.out; omega), hq]
          rw [hqq] at HK
          have hmN : m < T.nodes.length := by have := HN.out; omega
          have HKid : Hid (∀ k ∈ q, 1 ≤ k ∧ k < N ∧ parentF T k = m) := Lib.hid (by rw [hq, HN.out]; exact HTr.out.wf.kid m hmN)
          have HNd : Hid q.Nodup := Lib.hid (by rw [hq]; exact HTr.out.wf.nodup m hmN)
          clear hq hqq
          go_wp2_with fail
          refine HK.out.mono ?_
          rintro e w5 ⟨v, rfl, ho, hb5⟩
          obtain ⟨a9, c9, rfl, hc9, hm9, _, hat9⟩ := own_at ho
          have HAT := Lib.hid hat9
          have HB5 := Lib.hid (belowCall HBr.out hb5)
          have HT5 := Lib.hid (HTr.out.world hb5)
          unfold maxLen at hm9
          clear ho hb5 hat9 HK HTr HBr
          go_wp2_with fail
          go_loopw [10] (fun i wr3 => ∃ j : Nat, j ≤ q.length ∧ i = .int .i64 j ∧ Below w5.heap.size w5 wr3) (fun i _ => q.length - (intOf i).toNat)
          case atStart => exact ⟨0, Nat.zero_le _, rfl, Below.refl _ _⟩
          case round =>
            obtain ⟨j, hj, rfl, hb6⟩ := hrel
            have HB6 := Lib.hid hb6
            by_cases hlt3 : j < q.length
            · obtain ⟨b, o, rfl, e1⟩ := (HAT.out.below hb6) _ _ (intsV_get q j hlt3)
              obtain ⟨x, hx⟩ : ∃ x, x = q[j] := ⟨_, rfl⟩
              obtain ⟨x1, x2, x3⟩ := HKid.out _ (List.getElem_mem hlt3)
              rw [← hx] at e1 x1 x2 x3
              have HX := Lib.hid hx
              have HT6 := Lib.hid (HT5.out.world hb6)
              have HP := Lib.hid (HPar.out x m x1 x2 x3)
              have x1' : decide (x < 1) = false := decide_eq_false (by omega)
              have x2' : decide ((N : Int) - 1 < x) = false := decide_eq_false (by omega)
              clear hx x3 hb6
              go_wp2_with fail
              refine wp_region_calm (by kernel_rfl) (by kernel_rfl) ?_
              repeat
                with_reducible refine wpQuiet_step (fun K hK => ?_)
                first
                  | (with_reducible apply calm_skip
                     · rfl
                     simp only [Act.put, List.setIfInBounds_toArray, List.set_cons_zero, List.set_cons_succ]
                     refine hK _ ?_
                     clear hK K)
                  | (with_reducible apply calm_run
                     · rfl
                     · intro wq hC
                       have ze1 := cell_later hC.out e1
                       unfold Oper.quietAt
                       go_simp
                       first | done | (go_at_call 35; go_must (refine (HLen.out _ (HT6.out.tree.below hC.out)).mono ?_; rintro e wx ⟨rfl, rfl⟩; exact ⟨rfl, hC⟩)) | (go_at_call 37; go_must (refine (HP.out _ (HT6.out.tree.below hC.out)).mono ?_; rintro e wx ⟨rfl, rfl⟩; exact ⟨rfl, hC⟩)) | with_reducible rfl | rfl
                     simp only [Act.put, List.setIfInBounds_toArray, List.set_cons_zero, List.set_cons_succ]
                     refine hK _ ?_
                     clear hK K)
              with_reducible refine wpQuiet_nil ?_
              intro wq HQ
              have ze1 := cell_later HQ.out e1
              have HBq := Lib.hid (belowCall HB6.out HQ.out)
              go_wp2_with fail
              go_loopw [11] (fun i wr4 => ∃ y : Nat, y ≤ j ∧ i = .int .i64 y ∧ Below wq.heap.size wq wr4) (fun i _ => j - (intOf i).toNat)
              case atStart => exact ⟨0, Nat.zero_le _, rfl, Below.refl _ _⟩
              case round =>
                obtain ⟨y, hy, rfl, hb7⟩ := hrel
                have HB7 := Lib.hid hb7
                by_cases hlt4 : y < j
                · have hyq : y < q.length := by omega
                  obtain ⟨b2, o2, he2, f2⟩ := (HAT.out.below (belowCall HBq.out hb7)) _ _ (intsV_get q y hyq)
                  cases he2
                  have f1 := cell_later hb7 ze1
                  obtain ⟨x', hx'⟩ : ∃ x', x' = q[y] := ⟨_, rfl⟩
                  have hne : (x' == x) = false := by
                    rw [beq_eq_false_iff_ne, hx', HX.out]
                    intro e
                    exact absurd ((List.getElem_inj HNd.out).1 e) (by omega)
                  rw [← hx'] at f2
                  clear hx' hb7
                  go_wp2_with fail
                  refine wp_region_calm (by kernel_rfl) (by kernel_rfl) ?_
                  repeat
                    with_reducible refine wpQuiet_step (fun K hK => ?_)
                    first
                      | (with_reducible apply calm_skip
                         · rfl
                         simp only [Act.put, List.setIfInBounds_toArray, List.set_cons_zero, List.set_cons_succ]
                         refine hK _ ?_
                         clear hK K)
                      | (with_reducible apply calm_run
                         · rfl
                         · intro wq hC
                           have zf1 := cell_later hC.out f1
                           have zf2 := cell_later hC.out f2
                           unfold Oper.quietAt
                           go_simp
                           first | done | with_reducible rfl | rfl
                         simp only [Act.put, List.setIfInBounds_toArray, List.set_cons_zero, List.set_cons_succ]
                         refine hK _ ?_
                         clear hK K)
                  with_reducible refine wpQuiet_nil ?_
                  intro wq HQ
                  have zf1 := cell_later HQ.out f1
                  have zf2 := cell_later HQ.out f2
                  have HQ2 := Lib.hid (belowCall HB7.out HQ.out)
                  go_wp2_with fail
                  go_roundw
                  case rel => exact ⟨y + 1, by omega, by go_num, HQ2.out⟩
                  case measure => simp [intOf]; omega
                · have HE := Lib.hid (belowCall HBq.out HB7.out)
                  clear hb7
                  go_wp2_with fail
                  go_roundw
                  case rel => exact ⟨j + 1, by omega, by go_num, HE.out⟩
                  case measure => simp [intOf]; omega
            · have HE := Lib.hid (belowCall HB5.out HB6.out)
              clear hb6
              go_wp2_with fail
              go_roundw
              case rel =>
                rcases Nat.eq_zero_or_pos m with h0 | h0
                · subst h0
                  exact ⟨.inr (congrArg (Value.int .i64) (by simp)), HE.out⟩
                · exact ⟨.inl ⟨m - 1, by omega, congrArg (Value.int .i64) (by omega)⟩, HE.out⟩
              case measure => first | (simp [intOf]; done) | (simp [intOf]; omega)
        · have HT7 := Lib.hid (HT4.out.world HBr.out)
          have HO7 := Lib.hid (own_below HO.out HBr.out)
          rw [show (Value.int .i64 0).cells = #[.int .i64 0] from rfl, made_ints] at HO7
          have HBA := Lib.hid (belowCall HB4.out HBr.out)
          have HPar2 : Hid (∀ (x : Nat), 1 ≤ x → x < N → ∀ u, TreeO u tb g T → Calls Try.prog 37 #[.pointer (some ⟨tb, 0, none⟩), .int .i64 x] u fun e w' => e = .returned (.int .i64 (parentF T x)) ∧ u = w') := Lib.hid (fun x h1 h2 u hu => by
            have := parent_any T tb g u x hu
            have hf : isF T x = true := by have := HN.out; simp [isF]; omega
            rw [hf, if_pos rfl] at this
            exact this)
          obtain ⟨r, hr⟩ := HT.out.wf.rank
          have HR := Lib.hid hr
          clear HO HPar HT4 HBr HT7 hr
          have hlen : ∀ n u, (szs T n u).length = N := fun n u => (szs_len T n u).trans HN.out.symm
          have HLn := Lib.hid hlen
          clear hlen
          go_wp2_with fail
          go_loopw [12] (fun i wr5 => ∃ n : Nat, 1 ≤ n ∧ n ≤ N ∧ i = .int .i64 n ∧ Below wA.heap.size wA wr5 ∧ wr5.ownsRow sb 3 1 (.slice (some ⟨sb, 0, none⟩) N N) N (intsV (szs T n n))) (fun i _ => N - (intOf i).toNat)
          case atStart =>
            refine ⟨1, Nat.le_refl _, hpos, rfl, HBA.out, ?_⟩
            rw [show ((1 : Nat) : Int) = 1 from rfl, szs_zero, ← HN.out]
            exact HO7.out
          case round =>
            obtain ⟨n, hn1, hnN, rfl, hb8, ho8⟩ := hrel
            have HB8 := Lib.hid hb8
            have HO8 := Lib.hid ho8
            clear hb8 ho8
            by_cases hlt5 : n < N
            · have HT8 := Lib.hid (HT.out.world HB8.out)
              have c8 : (n : Int) ≤ (N : Int) - 1 := by omega
              go_wp2_with (go_at_call 35; go_must (refine (HLen.out _ HT8.out.tree).mono ?_; rintro e wx ⟨rfl, rfl⟩))
              go_loopw [13, 14] (fun i s wr6 => ∃ (u : Int) (st : Nat), -1 ≤ u ∧ u < N ∧ i = .int .i64 u ∧ s = .int .i64 st ∧ st = passed T n u ∧ (0 < u → Reach T u n) ∧ Below wA.heap.size wA wr6 ∧ wr6.ownsRow sb 3 1 (.slice (some ⟨sb, 0, none⟩) N N) N (intsV (szs T n u))) (fun i _ _ => upM r (intOf i))
              case atStart => exact ⟨n, 0, by omega, by omega, rfl, rfl, (passed_zero T n).symm, fun _ => .here, HB8.out, HO8.out⟩
              case round =>
                obtain ⟨u, st, hu1, hu2, rfl, rfl, hst, hreach, hb9, ho9⟩ := hrel
                have HB9 := Lib.hid hb9
                have HO9 := Lib.hid ho9
                have HST := Lib.hid hst
                have HRe := Lib.hid hreach
                have HT9 := Lib.hid (HT.out.world hb9)
                have hple : st ≤ N - 1 := by rw [hst, HN.out]; exact passed_le T n u (by have := HN.out; omega)
                have s1 : (st : Int) ≤ (N : Int) - 1 := by omega
                have s2 : ¬ ((N : Int) - 1 < (st : Int)) := by omega
                clear hb9 ho9 hst hreach
                by_cases hu0 : 0 < u
                · obtain ⟨m, rfl⟩ := Int.eq_ofNat_of_zero_le (by omega : 0 ≤ u)
                  have hmN : m < N := by omega
                  have hml : m < (szs T n m).length := by rw [HLn.out]; exact hmN
                  have hsm := szs_small T n m m hml
                  have hcell := (own_row HO9.out).cell (intsV_get (szs T n m) m hml)
                  have hfro := HO9.out.frozenAt m
                  have hstep := szs_step HT.out.wf (by omega) (by have := HN.out; omega) (HRe.out hu0) hml
                  obtain ⟨v, hv⟩ : ∃ v, v = (szs T n m)[m] := ⟨_, rfl⟩
                  rw [← hv] at hcell hsm hstep
                  have hwv : IntKind.i64.wrap (v + 1) = v + 1 := by rw [IntKind.wrap_i64]; omega
                  have hws : IntKind.i64.wrap ((st : Int) + 1) = (st : Int) + 1 := by rw [IntKind.wrap_i64]; omega
                  have ho10 := (HO9.out.stored m (.int .i64 (v + 1))).1
                  rw [← intsV_set, ← hstep] at ho10
                  have HO10 := Lib.hid ho10
                  have hb10 : Below wA.heap.size wA _ := HB9.out.setCell (p := ⟨sb, m, none⟩) (by have := HSB.out; show wA.heap.size ≤ sb; omega) (.int .i64 (v + 1))
                  have HB10 := Lib.hid hb10
                  have HP10 := Lib.hid (HPar2.out m (by omega) hmN _ (HT.out.world hb10).tree)
                  have hps := passed_step HT.out.wf (n := n) (by omega) (by have := HN.out; omega) (HRe.out hu0)
                  have HPS := Lib.hid hps
                  have c9 : (m : Int) ≤ (N : Int) - 1 := by omega
                  clear hv ho10 hb10 hps hstep hsm
                  go_wp2_with (first | (go_at_call 35; go_must (refine (HLen.out _ HT9.out.tree).mono ?_; rintro e wx ⟨rfl, rfl⟩)) | (go_at_call 37; go_must (refine HP10.out.mono ?_; rintro e wx ⟨rfl, rfl⟩)))
                  go_roundw
                  case rel =>
                    have hp := HT.out.wf.par m (by have := HN.out; omega)
                    have hN' := HN.out
                    exact ⟨parentF T m, st + 1, hp.1, by omega, rfl, by simp, by rw [HPS.out, HST.out], fun _ => reach_more (HRe.out hu0) hu0, HB10.out, HO10.out⟩
                  case measure => exact upM_lt r m (parentF T m) hu0 (fun h => HR.out m (by have := HN.out; omega) h)
                · have HE := Lib.hid (szs_next T n hn1 u (by omega))
                  go_wp2_with (go_at_call 35; go_must (refine (HLen.out _ HT9.out.tree).mono ?_; rintro e wx ⟨rfl, rfl⟩))
                  go_roundw
                  case rel => exact ⟨n + 1, by omega, by omega, by go_num, HB9.out, by rw [← HE.out]; exact HO9.out⟩
                  case measure => simp [intOf]; omega
            · obtain rfl : n = N := by omega
              have HT8 := Lib.hid (HT.out.world HB8.out)
              go_wp2_with (go_at_call 35; go_must (refine (HLen.out _ HT8.out.tree).mono ?_; rintro e wx ⟨rfl, rfl⟩))
              obtain ⟨d, hd⟩ := deep_all HT.out.wf
              have HD := Lib.hid hd
              have c300 : (n : Int) - 1 ≤ 300 := by omega
              clear hd HR HPar2 HBA HO7 HT8
              go_loopw [15] (fun i wr7 => ∃ y : Nat, 1 ≤ y ∧ y ≤ n ∧ i = .int .i64 y ∧ Below wA.heap.size wA wr7 ∧ wr7.ownsRow sb 3 1 (.slice (some ⟨sb, 0, none⟩) n n) n (intsV (szs T n n))) (fun i _ => n - (intOf i).toNat)
              case atStart => exact ⟨1, Nat.le_refl _, hn1, rfl, HB8.out, HO8.out⟩
              case round =>
                obtain ⟨y, hy1, hyn, rfl, hb11, ho11⟩ := hrel
                have HB11 := Lib.hid hb11
                have HO11 := Lib.hid ho11
                have HT11 := Lib.hid (HT.out.world hb11)
                clear hb11 ho11
                by_cases hlt7 : y < n
                · have hyN : y < T.nodes.length := by have := HN.out; omega
                  have hy7 : (y : Int) ≤ (n : Int) - 1 := by omega
                  have HRd := Lib.hid (read_deep d T tb g wr y HT.out.wf HT.out.len HT.out.att hy1 hyN (HD.out y hy1 hyN) HT11.out.tree)
                  have hyl : y < (szs T n n).length := by rw [HLn.out]; exact hlt7
                  have hcell := (own_row HO11.out).cell (intsV_get (szs T n n) y hyl)
                  have hfull : (szs T n n)[y] = (cntF T y : Int) := by
                    have := HN.out
                    subst this
                    exact szs_full T _ rfl y hy1 hyl
                  rw [hfull] at hcell
                  obtain ⟨v, hv⟩ : ∃ v, v = cntF T y := ⟨_, rfl⟩
                  have HCt := Lib.hid ((count_read d T HT.out.wf y hy1 hyN (HD.out y hy1 hyN)).trans hv.symm)
                  have hvle : v ≤ T.nodes.length := by rw [hv]; exact cntF_le T y
                  rw [← hv] at hcell
                  clear hv hfull
                  go_wp2_with (go_at_call 35; go_must (refine (HLen.out _ HT11.out.tree).mono ?_; rintro e wx ⟨rfl, rfl⟩))
                  refine HRd.out.mono ?_
                  rintro e w12 ⟨cs, rfl, hcs, hb12⟩
                  obtain ⟨f0, f1, f2, f3, f4, f5, f6, f7, f8, f9, rfl⟩ := nodeC_form hcs
                  have hcN := hcs.other (G := Non) (fun b _ hb => hb.elim)
                  unfold nodeV at hcN ⊢
                  have hb13 := (Below.refl w12.heap.size w12).alloc (Nat.le_refl _) (.cells #[.int .i64 f0, .int .i64 f1, .string f2, .slice f3 f4 f5, .string f6, .slice f7 f8 f9] 56)
                  have hX := heap_alloc_new w12 (.cells #[.int .i64 f0, .int .i64 f1, .string f2, .slice f3 f4 f5, .string f6, .slice f7 f8 f9] 56)
                  have hcell2 := cell_later hb13 (cell_later hb12 hcell)
                  have HCN := Lib.hid (hcN.kept (Keeps.ofBelow hb13))
                  have HB13 := Lib.hid (belowCall HB11.out (belowCall hb12 hb13))
                  have HO13 := Lib.hid (own_below (own_below HO11.out hb12) hb13)
                  clear hcs hcN hb12 hb13 hcell HRd
                  go_wp2_with fail
                  generalize w12.alloc (.cells #[.int .i64 f0, .int .i64 f1, .string f2, .slice f3 f4 f5, .string f6, .slice f7 f8 f9] 56) = w13 at *
                  obtain ⟨⟨z0, z1, z2, z3, z4, z5⟩, _⟩ := cells6 hX
                  clear hX
                  have HCnt : Hid (∀ u, NodeC Non u [.int .i64 f0, .int .i64 f1, .string f2, .slice f3 f4 f5, .string f6, .slice f7 f8 f9] (readN d T y) → Calls Try.prog 39 #[.agg #[.int .i64 f0, .int .i64 f1, .string f2, .slice f3 f4 f5, .string f6, .slice f7 f8 f9]] u fun e u' => e = .returned (.int .i64 v) ∧ Below u.heap.size u u') := Lib.hid (fun u hu => by
                    have := count_any v (readN d T y) u _ (by rw [HCt.out]; exact Nat.le_refl _) (by have := HT.out.len; omega) hu
                    rw [HCt.out] at this
                    exact this)
                  refine wp_region_calm (by kernel_rfl) (by kernel_rfl) ?_
                  repeat
                    with_reducible refine wpQuiet_step (fun K hK => ?_)
                    first
                      | (with_reducible apply calm_skip
                         · rfl
                         simp only [Act.put, List.setIfInBounds_toArray, List.set_cons_zero, List.set_cons_succ]
                         refine hK _ ?_
                         clear hK K)
                      | (with_reducible apply calm_run
                         · rfl
                         · intro wq hC
                           have zz0 := cell_later hC.out z0
                           have zz1 := cell_later hC.out z1
                           have zz2 := cell_later hC.out z2
                           have zz3 := cell_later hC.out z3
                           have zz4 := cell_later hC.out z4
                           have zz5 := cell_later hC.out z5
                           have zhcell2 := cell_later hC.out hcell2
                           unfold Oper.quietAt
                           go_simp
                           first | done | (go_at_call 39; go_must (refine (HCnt.out _ (HCN.out.kept (Keeps.ofBelow hC.out))).mono ?_; rintro e wx ⟨rfl, hbx⟩; exact ⟨rfl, Lib.hid (belowCall hC.out hbx)⟩)) | with_reducible rfl | rfl
                         simp only [Act.put, List.setIfInBounds_toArray, List.set_cons_zero, List.set_cons_succ]
                         refine hK _ ?_
                         clear hK K)
                  with_reducible refine wpQuiet_nil ?_
                  intro wq HQ
                  have zz0 := cell_later HQ.out z0
                  have zz1 := cell_later HQ.out z1
                  have zz2 := cell_later HQ.out z2
                  have zz3 := cell_later HQ.out z3
                  have zz4 := cell_later HQ.out z4
                  have zz5 := cell_later HQ.out z5
                  have zhcell2 := cell_later HQ.out hcell2
                  have HB14 := Lib.hid (belowCall HB13.out HQ.out)
                  have HO14 := Lib.hid (own_below HO13.out HQ.out)
                  go_wp2_with fail
                  go_roundw
                  case rel => exact ⟨y + 1, by omega, by omega, by go_num, HB14.out, HO14.out⟩
                  case measure => simp [intOf]; omega
                · have hyn' : y = n := by omega
                  have hy8 : ¬ ((y : Int) ≤ (n : Int) - 1) := by omega
                  have HBF := Lib.hid (HT11.out.below)
                  go_wp2_with (go_at_call 35; go_must (refine (HLen.out _ HT11.out.tree).mono ?_; rintro e wx ⟨rfl, rfl⟩))
                  go_ret
                  exact ⟨ret_bool (by first | (simp; done) | (simp; omega)), HBF.out⟩
end Go.Proofs.Ytflphgmblipglaa
