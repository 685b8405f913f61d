/-
  Contracts: the document's open elements: Has, HasNode. No conditions beyond those that each lemma types.
-/
import Derived.Test.YtclflmjpdglgiaaGreatRstD
import Derived.Test.YtclflmjpdglgiaaGreatStkDG
import Derived.Test.YtclflmjpdglgiaaGreatOpenU
namespace Go.Proofs.YtclflmjpdglgiaaGreat
open Go.RowKit Mem


set_option maxRecDepth 100000 in
set_option maxHeartbeats 8000000 in
theorem rst_hasnode (T : TreeD) (w : World) (sb rb gn gk : Nat) (gs : Option Nat) (l : List Int) (h : RstO w sb rb gs l) (hR : RefO w rb gn gk T) (hl : l.length ≤ 1048576) (m : Int) :
    Calls Tryz.prog 64 #[.pointer (some ⟨sb, 0, none⟩), .int .i64 m] w fun e w' => e = .returned (.bool (hasNodeF T l m)) ∧ Below w.heap.size w w' := by
  have HP := Lib.hid (show hasNodeF T l m = searchF (fun x => x == m) (stopF T 0) (l.take l.length).reverse by rw [hasNodeF, List.take_length])
  obtain ⟨a0, c0', s0, s1, hat0, _⟩ := h.cells
  obtain ⟨capn, capk, p1, p2, p3, p4, c0, c1, _, _, _, _⟩ := hR.head
  have HA := Lib.hid hat0
  have HS := Lib.hid h
  have HRR := Lib.hid hR
  have S0 := Lib.hid s0
  have S1 := Lib.hid s1
  have C0 := Lib.hid c0
  have hw1 : IntKind.i64.wrap ((l.length : Int) - 1) = (l.length : Int) - 1 := by rw [IntKind.wrap_i64]; omega
  unfold maxLen at p2
  clear h hR hat0
  go_enter Tryz.func64, Tryz.ntmps64
  go_wp2_with fail
  clear s0 s1 c0 c1
  go_loopw [5] (fun i wr => ∃ k : Nat, k ≤ l.length ∧ i = .int .i64 ((k : Int) - 1) ∧ Below w.heap.size w wr ∧ hasNodeF T l m = searchF (fun x => x == m) (stopF T 0) (l.take k).reverse) (fun i _ => (intOf i + 1).toNat)
  case atStart => exact ⟨l.length, Nat.le_refl _, rfl, Below.refl _ _, HP.out⟩
  case round =>
    obtain ⟨k, hk, rfl, hb, hv⟩ := hrel
    have HBq := Lib.hid hb
    have HV := Lib.hid hv
    have s1r := cell_later hb S1.out
    cases k with
    | zero =>
      have HF := Lib.hid (show searchF (fun x => x == m) (stopF T 0) (l.take 0).reverse = false by simp [searchF])
      clear hb hv
      go_wp2_with fail
      go_ret
      exact ⟨ret_bool (by rw [HV.out, HF.out]), HBq.out⟩
    | succ k =>
      have hlt : k < l.length := by omega
      have hkk : ((k + 1 : Nat) : Int) - 1 = (k : Int) := by omega
      rw [hkk]
      obtain ⟨b, o, rfl, e0⟩ := (HA.out.below hb) _ _ (intsV_get l k hlt)
      have HD := Lib.hid (searchF_step (fun x => x == m) (stopF T 0) l k hlt)
      obtain ⟨wq, rfl⟩ : ∃ wq : World, wq = wr := ⟨_, rfl⟩
      clear hb hv hkk
      cases hpf : (l[k] == m)
      · have HPF := Lib.hid (show ((fun x => x == m) l[k]) = false from hpf)
        cases he : elemF T l[k]
        · have HE := Lib.hid (relem_any T rb gn gk wq l[k] (HRR.out.below HBq.out))
          rw [he] at HE
          have HN := Lib.hid (show stopF T 0 l[k] = false by rw [stopF, he]; rfl)
          clear he
          generalize l[k] = x at *
          have s0q := cell_later HBq.out S0.out
          go_wp2_with (go_at_call 97; go_must (refine HE.out.mono ?_; rintro e v1 ⟨rfl, rfl⟩))
          refine wp_region_calm (by kernel_rfl) (by kernel_rfl) ?_
          repeat
            with_reducible refine wpQuiet_step (fun K hK => ?_)
            first
              | (with_reducible apply calm_skip
                 · rfl
                 simp only [Act.put, List.setIfInBounds_toArray, List.set_cons_zero, List.set_cons_succ]
                 refine hK _ ?_
                 clear hK K)
              | (with_reducible apply calm_run
                 · rfl
                 · intro wq hC
                   unfold Oper.quietAt
                   go_simp
                   first | done | with_reducible rfl | rfl
                 simp only [Act.put, List.setIfInBounds_toArray, List.set_cons_zero, List.set_cons_succ]
                 refine hK _ ?_
                 clear hK K)
          with_reducible refine wpQuiet_nil ?_
          intro wq HQ
          have HB3 := Lib.hid (belowCall HBq.out HQ.out)
          go_wp2_with fail
          go_roundw
          case rel => exact ⟨k, by omega, by go_num, HB3.out, by rw [HV.out, HD.out, HPF.out, HN.out]; rfl⟩
          case measure => simp [intOf] <;> omega
        · obtain ⟨i, hi, hx, _, _⟩ := elemF_nat he
          have HE := Lib.hid (relem_any T rb gn gk wq l[k] (HRR.out.below HBq.out))
          rw [he] at HE
          rw [hx] at he
          obtain ⟨e1, e2, _⟩ := what_of hi he
          have HN := Lib.hid (show stopF T 0 l[k] = boundsF 0 T.nodes[i].space T.nodes[i].name by rw [hx, stopF, he, e1, e2]; rfl)
          obtain ⟨aa, ac, _, _, _, d0, d1, d2, _⟩ := HRR.out.node6 hi
          have HX := Lib.hid hx
          have HBo := Lib.hid (fun u => rBounds_any 0 T.nodes[i].space T.nodes[i].name u)
          rw [hx] at HE e0 hpf
          clear he e1 e2 hx
          have s0q := cell_later HBq.out S0.out
          have c0q := cell_later HBq.out C0.out
          have d1q := cell_later HBq.out d1
          have d2q := cell_later HBq.out d2
          generalize T.nodes[i].space = sp at *
          generalize T.nodes[i].name = nm at *
          cases hbo : boundsF 0 sp nm
          all_goals
            rw [hbo] at HN HBo
            clear hbo
            go_wp2_with (go_at_call 97; go_must (refine HE.out.mono ?_; rintro e v1 ⟨rfl, rfl⟩))
            refine wp_region_calm (by kernel_rfl) (by kernel_rfl) ?_
            repeat
              with_reducible refine wpQuiet_step (fun K hK => ?_)
              first
                | (with_reducible apply calm_skip
                   · rfl
                   simp only [Act.put, List.setIfInBounds_toArray, List.set_cons_zero, List.set_cons_succ]
                   refine hK _ ?_
                   clear hK K)
                | (with_reducible apply calm_run
                   · rfl
                   · intro wq hC
                     have zs0q := cell_later hC.out s0q
                     have zc0q := cell_later hC.out c0q
                     have zd1q := cell_later hC.out d1q
                     have zd2q := cell_later hC.out d2q
                     unfold Oper.quietAt
                     go_simp
                     first | done | (go_at_call 101; refine (HBo.out _).mono ?_; rintro e wx ⟨rfl, rfl⟩; exact ⟨rfl, hC⟩) | with_reducible rfl | rfl
                   simp only [Act.put, List.setIfInBounds_toArray, List.set_cons_zero, List.set_cons_succ]
                   refine hK _ ?_
                   clear hK K)
            with_reducible refine wpQuiet_nil ?_
            intro wq HQ
            have zs0q := cell_later HQ.out s0q
            have zc0q := cell_later HQ.out c0q
            have zd1q := cell_later HQ.out d1q
            have zd2q := cell_later HQ.out d2q
            have HB3 := Lib.hid (belowCall HBq.out HQ.out)
            go_wp2_with fail
          · go_roundw
            case rel => exact ⟨k, by omega, by go_num, HB3.out, by rw [HV.out, HD.out, HPF.out, HN.out]; rfl⟩
            case measure => simp [intOf] <;> omega
          · go_ret
            exact ⟨ret_bool (by rw [HV.out, HD.out, HPF.out, HN.out]; rfl), HB3.out⟩
      · have HPF := Lib.hid (show ((fun x => x == m) l[k]) = true from hpf)
        go_wp2_with fail
        go_ret
        exact ⟨ret_bool (by rw [HV.out, HD.out, HPF.out]; rfl), HBq.out⟩
end Go.Proofs.YtclflmjpdglgiaaGreat
