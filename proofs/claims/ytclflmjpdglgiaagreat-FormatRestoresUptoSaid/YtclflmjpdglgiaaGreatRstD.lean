/-
  Contract: the document's open elements: Named. No conditions beyond those that each lemma types.
-/
import Derived.Test.YtclflmjpdglgiaaGreatOpenRS
import Derived.Test.YtclflmjpdglgiaaGreatRfR
import Derived.Test.YtclflmjpdglgiaaGreatRfQQ
import Derived.Test.YtclflmjpdglgiaaGreatOpenVO
namespace Go.Proofs.YtclflmjpdglgiaaGreat
open Go.RowKit Mem

set_option maxRecDepth 100000 in
set_option maxHeartbeats 4000000 in
theorem rst_named (T : TreeD) (w : World) (sb rb gn gk : Nat) (gs : Option Nat) (l : List Int) (h : RstO w sb rb gs l) (hR : RefO w rb gn gk T) (n : Int) (names : List ByteArray) (a : Option Addr) (c : Nat) (m : Nat) (hm : m = names.length) (ha : At w a (strsV names)) (hl : names.length ≤ 1048576) :
    Calls Tryz.prog 61 #[.pointer (some ⟨sb, 0, none⟩), .int .i64 n, .slice a m c] w fun e w' => e = .returned (.bool (namedF T n names)) ∧ Below w.heap.size w w' := by
  subst hm
  have HE := relem_any T rb gn gk w n hR
  obtain ⟨_, _, s0, _⟩ := h.cells
  obtain ⟨capn, capk, p1, p2, p3, p4, c0, c1, _, _, _, _⟩ := hR.head
  unfold maxLen at p2
  cases he : elemF T n
  · have HP := Lib.hid (show namedF T n names = false by rw [namedF, he]; rfl)
    rw [he] at HE
    have HE := Lib.hid HE
    clear h hR ha
    go_enter Tryz.func61, Tryz.ntmps61
    go_wp2_with (go_at_call 97; go_must (refine HE.out.mono ?_; rintro e w1 ⟨rfl, rfl⟩))
    go_ret
    exact ⟨ret_bool HP.out.symm, Below.refl _ _⟩
  · obtain ⟨i, hi, rfl, _, _⟩ := elemF_nat he
    obtain ⟨e1, e2, _⟩ := what_of hi he
    obtain ⟨aa, ac, _, _, _, d0, d1, d2, _⟩ := hR.node6 hi
    rw [he] at HE
    have HE := Lib.hid HE
    cases hsp : (T.nodes[i].space == 0)
    · have HP := Lib.hid (show namedF T i names = false by rw [namedF, he, e1, hsp]; rfl)
      have hsp2 : (T.nodes[i].space != 0) = true := by rw [bne, hsp]; rfl
      clear h hR ha e1 e2
      generalize T.nodes[i].space = sp at *
      go_enter Tryz.func61, Tryz.ntmps61
      go_wp2_with (go_at_call 97; go_must (refine HE.out.mono ?_; rintro e w1 ⟨rfl, rfl⟩))
      go_ret
      exact ⟨ret_bool HP.out.symm, Below.refl _ _⟩
    · have HP := Lib.hid (show namedF T i names = isW names T.nodes[i].name by rw [namedF, he, e1, e2, hsp]; rfl)
      have hsp2 : (T.nodes[i].space != 0) = false := by rw [bne, hsp]; rfl
      have HA := Lib.hid ha
      have S0 := Lib.hid s0
      have C0 := Lib.hid c0
      have D2 := Lib.hid d2
      clear h hR ha e1 e2
      generalize T.nodes[i].space = sp at *
      generalize T.nodes[i].name = x at *
      have hN1 : decide ((0 : Int) < (i : Int)) = decide (0 < i) := by simp
      clear hN1
      go_enter Tryz.func61, Tryz.ntmps61
      go_wp2_with (go_at_call 97; go_must (refine HE.out.mono ?_; rintro e w1 ⟨rfl, rfl⟩))
      clear s0 c0 d2 d0 d1 c1
      go_loopw [8] (fun i wr => ∃ k : Nat, k ≤ names.length ∧ i = .int .i64 k ∧ Below w.heap.size w wr ∧ isW names x = isW (names.drop k) x) (fun i _ => names.length - (intOf i).toNat)
      case atStart => exact ⟨0, Nat.zero_le _, rfl, Below.refl _ _, rfl⟩
      case round =>
        obtain ⟨k, hk, rfl, hb, hv⟩ := hrel
        have HB := Lib.hid hb
        have HV := Lib.hid hv
        have s0 := cell_later hb S0.out
        have c0 := cell_later hb C0.out
        have d2 := cell_later hb D2.out
        by_cases hlt : k < names.length
        · obtain ⟨b, o, rfl, _, e1⟩ := str_cell (HA.out.below hb) hlt
          have HD := Lib.hid (isW_drop names x k hlt)
          generalize names[k] = y at *
          clear hb hv
          go_wp2_with fail
          cases hq : (x.toList == y.toList)
          all_goals
            have hq2 : (y.toList == x.toList) = (x.toList == y.toList) := by rw [Bool.eq_iff_iff, beq_iff_eq, beq_iff_eq]; exact eq_comm
            rw [hq] at hq2
            refine wp_region_calm (by kernel_rfl) (by kernel_rfl) ?_
            repeat
              with_reducible refine wpQuiet_step (fun K hK => ?_)
              first
                | (with_reducible apply calm_skip
                   · rfl
                   simp only [Act.put, List.setIfInBounds_toArray, List.set_cons_zero, List.set_cons_succ]
                   refine hK _ ?_
                   clear hK K)
                | (with_reducible apply calm_run
                   · rfl
                   · intro wq hC
                     have zs0 := cell_later hC.out s0
                     have zc0 := cell_later hC.out c0
                     have zd2 := cell_later hC.out d2
                     have ze1 := cell_later hC.out e1
                     unfold Oper.quietAt
                     go_simp
                     first | done | with_reducible rfl | rfl
                   simp only [Act.put, List.setIfInBounds_toArray, List.set_cons_zero, List.set_cons_succ]
                   refine hK _ ?_
                   clear hK K)
            with_reducible refine wpQuiet_nil ?_
            intro wq HQ
            have zs0 := cell_later HQ.out s0
            have zc0 := cell_later HQ.out c0
            have zd2 := cell_later HQ.out d2
            have ze1 := cell_later HQ.out e1
            have HB3 := Lib.hid (belowCall HB.out HQ.out)
            go_wp2_with fail
          · go_roundw
            case rel => exact ⟨k + 1, by omega, by go_num, HB3.out, by rw [HV.out, HD.out, hq]; rfl⟩
            case measure => simp [intOf]; omega
          · go_ret
            exact ⟨ret_bool (by rw [HP.out, HV.out, HD.out, hq]; rfl), HB3.out⟩
        · have he : names.drop k = [] := List.drop_of_length_le (by omega)
          have HF := Lib.hid (show isW (names.drop k) x = false by rw [he]; rfl)
          clear hb hv he
          go_wp2_with fail
          go_ret
          exact ⟨ret_bool (by rw [HP.out, HV.out, HF.out]), HB.out⟩
end Go.Proofs.YtclflmjpdglgiaaGreat
