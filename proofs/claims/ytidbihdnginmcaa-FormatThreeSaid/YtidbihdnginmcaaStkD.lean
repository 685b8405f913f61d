/-
  Contracts: the open elements' search (of any function value that only reads), Has, HasNode.
-/
import Derived.Test.YtidbihdnginmcaaStkC
import Derived.Deep.RegionHeld3
namespace Go.Proofs.Ytidbihdnginmcaa
open Go.RowKit Mem

theorem searchF_step (p stop : Int → Bool) (l : List Int) (k : Nat) (h : k < l.length) : searchF p stop (l.take (k + 1)).reverse = (p l[k] || (!stop l[k] && searchF p stop (l.take k).reverse)) := by
  rw [List.take_succ_eq_append_getElem h, List.reverse_append]
  rfl

/-- two cells of a stack and one of its row, in a later world -/
theorem keepS3 {u u' : World} {sb tb b o : Nat} {v x : Value} (hb : Below u.heap.size u u') (h : u.cell? ⟨sb, 0, none⟩ = some (.pointer (some ⟨tb, 0, none⟩)) ∧ u.cell? ⟨sb, 1, none⟩ = some v ∧ u.cell? ⟨b, o, none⟩ = some x) :
    u'.cell? ⟨sb, 0, none⟩ = some (.pointer (some ⟨tb, 0, none⟩)) ∧ u'.cell? ⟨sb, 1, none⟩ = some v ∧ u'.cell? ⟨b, o, none⟩ = some x :=
  ⟨cell_later hb h.1, cell_later hb h.2.1, cell_later hb h.2.2⟩

section
variable (T : TreeD) (w : World) (sb tb g : Nat) (gs : Option Nat) (l : List Int)
set_option maxRecDepth 100000 in
set_option maxHeartbeats 4000000 in
theorem search_any (h : StkO w sb tb gs l) (hT : TreeO w tb g T) (hat : ∀ i (h : i < T.nodes.length), T.nodes[i].attrs.length ≤ 1048576) (hl : l.length ≤ 1048576) (scope : Int) (f : Nat) (lb : Array Value) (ef : ∀ args w, (callFunc f args).run Try.prog w = .ok (.enter f args) w)
    (p : Int → Bool) (hp : ∀ W x, Below w.heap.size w W → Calls Try.prog f (#[.int .i64 x] ++ lb) W fun e w' => e = .returned (.bool (p x)) ∧ Below W.heap.size W w') :
    Calls Try.prog 63 #[.pointer (some ⟨sb, 0, none⟩), .int .i64 scope, .func (.func f) #[] lb] w fun e w' => e = .returned (.bool (searchF p (stopF T scope) l.reverse)) ∧ Below w.heap.size w w' := by
  have HS := Lib.hid h
  have HT := Lib.hid hT
  have HP := Lib.hid hp
  have HAt := Lib.hid hat
  obtain ⟨a, c, c0, c1, hA, _⟩ := h.cells
  have HA := Lib.hid hA
  clear h hT hp hat hA
  go_enter Try.func63, Try.ntmps63
  go_wp2_with fail
  go_loopw [7] (fun i wr => ∃ k : Nat, k ≤ l.length ∧ i = .int .i64 ((k : Int) - 1) ∧ Below w.heap.size w wr ∧ searchF p (stopF T scope) l.reverse = searchF p (stopF T scope) (l.take k).reverse) (fun i _ => (intOf i + 1).toNat)
  case atStart => exact ⟨l.length, Nat.le_refl _, rfl, Below.refl _ _, by rw [List.take_of_length_le (Nat.le_refl _)]⟩
  case round =>
    obtain ⟨k, hk, rfl, hb, hv⟩ := hrel
    have HB := Lib.hid hb
    have HV := Lib.hid hv
    clear hv
    cases k with
    | zero =>
      clear hb
      go_wp2_with fail
      go_ret
      exact ⟨ret_bool (by rw [HV.out]; rfl), HB.out⟩
    | succ k =>
      have hlt : k < l.length := by omega
      obtain ⟨bb, o, rfl⟩ := HA.out.some_of (by intro h; have := congrArg List.length h; rw [intsV_length, List.length_nil] at this; omega)
      have hx := cell_later hb (HA.out.get (intsV_get l k hlt))
      have d0 := cell_later hb c0
      have d1 := cell_later hb c1
      have e1 : ((k + 1 : Nat) : Int) - 1 = (k : Int) := by omega
      rw [e1]
      have HF := Lib.hid (HP.out wr l[k] hb)
      have HST := Lib.hid (searchF_step p (stopF T scope) l k hlt)
      obtain ⟨x, hxx⟩ : ∃ x, x = l[k] := ⟨_, rfl⟩
      rw [← hxx] at hx HF HST
      clear hb hxx
      cases hpx : p x
      · rw [hpx] at HF HST
        go_wp2_with (go_at_fn f; go_must (refine HF.out.mono ?_; rintro e w1 ⟨rfl, hb1⟩; have z0 := cell_later hb1 d0; have z1 := cell_later hb1 d1; have zx := cell_later hb1 hx; have HB1 := Lib.hid hb1; clear hb1))
        have HT1 := Lib.hid ((HT.out.below HB.out).below HB1.out)
        have HT1' := Lib.hid (HT1.out.below (stk_drewN w1 1))
        have HW := Lib.hid (What_any T tb g w1.drew x HAt.out HT1'.out)
        have q0 : w1.drew.cell? ⟨sb, 0, none⟩ = some (.pointer (some ⟨tb, 0, none⟩)) := z0
        have q1 : w1.drew.cell? ⟨sb, 1, none⟩ = some (.slice (some ⟨bb, o, none⟩) l.length c) := z1
        have qx : w1.drew.cell? ⟨bb, o + k, none⟩ = some (.int .i64 x) := zx
        go_region_held3 (fun u => u.cell? ⟨sb, 0, none⟩ = some (.pointer (some ⟨tb, 0, none⟩)) ∧ u.cell? ⟨sb, 1, none⟩ = some (.slice (some ⟨bb, o, none⟩) l.length c) ∧ u.cell? ⟨bb, o + k, none⟩ = some (.int .i64 x))
          (first | exact ⟨q0, q1, qx⟩ | with_reducible exact keepS3 HB2.out ⟨q0, q1, qx⟩)
          (first | (go_at_call 43; go_must (refine HW.out.mono ?_; rintro e w2 ⟨v, rfl, _, hb2⟩; have HB2 := Lib.hid hb2; clear hb2)))
        have r0 := cell_later HB2.out q0
        have r1 := cell_later HB2.out q1
        have rx := cell_later HB2.out qx
        have HT2 := Lib.hid (HT1'.out.below HB2.out)
        have HBw := Lib.hid (belowCall (belowCall HB.out HB1.out).drew HB2.out)
        clear z0 z1 zx q0 q1 qx HW d0 d1 hx
        have HE : Hid (∀ u, TreeO u tb g T → Calls Try.prog 91 #[.pointer (some ⟨tb, 0, none⟩), .int .i64 x] u fun e w' => e = .returned (.bool (elemF T x)) ∧ u = w') := Lib.hid (fun u hu => elem_any T tb g u x hu)
        have HBo : Hid (∀ u, Calls Try.prog 97 #[.int .i64 scope, .int .i64 (spaceQ T x), .string (nameQ T x)] u fun e w' => e = .returned (.bool (boundsF scope (spaceQ T x) (nameQ T x))) ∧ u = w') := Lib.hid (fun u => Bounds_any scope _ _ u)
        have HSt : Hid (stopF T scope x = (elemF T x && boundsF scope (spaceQ T x) (nameQ T x))) := Lib.hid rfl
        generalize spaceQ T x = xs at *
        generalize nameQ T x = xn at *
        cases hel : elemF T x <;> cases hbo : boundsF scope xs xn
        all_goals
          rw [hel] at HE HSt
          rw [hbo] at HBo HSt
          go_wp2_with fail
          refine wp_region_calm (by kernel_rfl) (by kernel_rfl) ?_
          repeat
            with_reducible refine wpQuiet_step (fun K hK => ?_)
            first
              | (with_reducible apply calm_skip
                 · rfl
                 simp only [Act.put, List.setIfInBounds_toArray, List.set_cons_zero, List.set_cons_succ]
                 refine hK _ ?_
                 clear hK K)
              | (with_reducible apply calm_run
                 · rfl
                 · intro wq hC
                   have zr0 := cell_later hC.out r0
                   have zr1 := cell_later hC.out r1
                   have zrx := cell_later hC.out rx
                   unfold Oper.quietAt
                   go_simp
                   first | done | (go_at_call 91; go_must (refine (HE.out _ (HT2.out.below hC.out)).mono ?_; rintro e wx ⟨rfl, rfl⟩; exact ⟨rfl, hC⟩)) | (go_at_call 97; go_must (refine (HBo.out _).mono ?_; rintro e wx ⟨rfl, rfl⟩; exact ⟨rfl, hC⟩)) | with_reducible rfl | rfl
                 simp only [Act.put, List.setIfInBounds_toArray, List.set_cons_zero, List.set_cons_succ]
                 refine hK _ ?_
                 clear hK K)
          with_reducible refine wpQuiet_nil ?_
          intro wq HQ
          have zr0 := cell_later HQ.out r0
          have zr1 := cell_later HQ.out r1
          have zrx := cell_later HQ.out rx
          have HBx := Lib.hid (belowCall HBw.out HQ.out)
          go_wp2_with fail
          first
            | (go_round
               case rel => exact ⟨k, by omega, by go_num, HBx.out, by rw [HV.out, HST.out, HSt.out]; rfl⟩
               case measure => simp [intOf])
            | (go_ret
               exact ⟨ret_bool (by rw [HV.out, HST.out, HSt.out]; rfl), HBx.out⟩)
      · rw [hpx] at HF HST
        go_wp2_with (go_at_fn f; go_must (refine HF.out.mono ?_; rintro e w1 ⟨rfl, hb1⟩; have HB1 := Lib.hid hb1; clear hb1))
        go_ret
        exact ⟨ret_bool (by rw [HV.out, HST.out]; rfl), belowCall HB.out HB1.out⟩
end
end Go.Proofs.Ytidbihdnginmcaa
