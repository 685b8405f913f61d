/-
  Contract: the document's list: turn. No conditions beyond those that each lemma types.
-/
import Derived.Test.YtclflmjpdglgiaaGreatDlH
import Derived.Test.YtclflmjpdglgiaaGreatKpAB
namespace Go.Proofs.YtclflmjpdglgiaaGreat
open Go.RowKit Mem

section
variable {w0 w w' : World} {B B' rb sb lb : Nat} {ex : Nat → Prop} {T T' : TreeD} {l l' ent ent' : List Int} {on on' : Bool}
theorem LD.less {ex' : Nat → Prop} (h : LD w0 B rb sb lb ex T l ent on w) (he : ∀ k, ex' k → ex k) : LD w0 B rb sb lb ex' T l ent on w :=
  h.foreign (F := fun _ => False) (Keeps.refl _ _) (fun _ h => h.elim) fun k hk => ⟨.inl (he k hk), h.exlt k (he k hk)⟩
theorem keepT2 {u u' : World} {lb sb : Nat} {v : Value} (hb : Below u.heap.size u u') (h : u.cell? ⟨lb, 1, none⟩ = some (.pointer (some ⟨sb, 0, none⟩)) ∧ u.cell? ⟨sb, 1, none⟩ = some v) :
    u'.cell? ⟨lb, 1, none⟩ = some (.pointer (some ⟨sb, 0, none⟩)) ∧ u'.cell? ⟨sb, 1, none⟩ = some v := ⟨cell_later hb h.1, cell_later hb h.2⟩

theorem keepSetD {w : World} {lb sb i j : Nat} {v x : Value} (hne : lb ≠ sb) (h : w.cell? ⟨lb, i, none⟩ = some v) : (w.setCell ⟨sb, j, none⟩ x).drew.cell? ⟨lb, i, none⟩ = some v := keepSet hne h
set_option maxRecDepth 100000 in
set_option maxHeartbeats 16000000 in
theorem dturn_ld (h : LD w0 B rb sb lb ex T l ent on w) (f b : Int) (hl : l.length < 1000000) (he : ent.length + 1 < 1000000) (hf : f ∈ ent) (h0 : 0 ≤ rfind l f) (hfb : rfind l f < rfind l b) (hen : ∀ x ∈ ent, x = -1 ∨ elemF T x = true) (hln : ∀ x ∈ l, ent.count x ≤ 1 ∧ elemF T x = true) :
    Calls Tryz.prog 67 #[.pointer (some ⟨lb, 0, none⟩), .int .i64 f, .int .i64 b] w fun e w' =>
      e = .returned (.int .i64 (turnL T l ent on f b).2.2.2) ∧ LD w0 B rb sb lb ex (turnL T l ent on f b).1 (turnL T l ent on f b).2.1 (turnL T l ent on f b).2.2.1 on w' ∧ Keeps (Own w0 ex) w w' := by
  obtain ⟨-, -, c0, c1, -⟩ := h.cells
  obtain ⟨va, vc, s0, s1, hat, -, -, -, hvc, hvm⟩ := h.stk
  have HL := Lib.hid h
  have hbl := between_len l f b hfb h0
  obtain ⟨i, hi⟩ := Int.eq_ofNat_of_zero_le h0
  obtain ⟨Bt, hB⟩ : ∃ Bt, Bt = betweenF l f b := ⟨_, rfl⟩
  have HG := Lib.hid (fun k (hk : k < (betweenF l f b).length) => between_get l f b k hk)
  have HNE := Lib.hid (fun k (hk : k < (betweenF l f b).length) => between_ne l f b k hk)
  have HT : Hid (turnL T l ent on f b = if (turnR b (betweenF l f b).reverse 1 ⟨T, l, ent, rfind ent f, b⟩).2 = 0 then
      closeL (putE (turnR b (betweenF l f b).reverse 1 ⟨T, l, ent, rfind ent f, b⟩).1.T (if underF l f ≠ 0 then placeQ (turnR b (betweenF l f b).reverse 1 ⟨T, l, ent, rfind ent f, b⟩).1.T (turnR b (betweenF l f b).reverse 1 ⟨T, l, ent, rfind ent f, b⟩).1.l on (underF l f) else (0, 0)).1 (if underF l f ≠ 0 then placeQ (turnR b (betweenF l f b).reverse 1 ⟨T, l, ent, rfind ent f, b⟩).1.T (turnR b (betweenF l f b).reverse 1 ⟨T, l, ent, rfind ent f, b⟩).1.l on (underF l f) else (0, 0)).2 (turnR b (betweenF l f b).reverse 1 ⟨T, l, ent, rfind ent f, b⟩).1.last).1 (turnR b (betweenF l f b).reverse 1 ⟨T, l, ent, rfind ent f, b⟩).1.l (turnR b (betweenF l f b).reverse 1 ⟨T, l, ent, rfind ent f, b⟩).1.ent f b (turnR b (betweenF l f b).reverse 1 ⟨T, l, ent, rfind ent f, b⟩).1.keep
      else ((turnR b (betweenF l f b).reverse 1 ⟨T, l, ent, rfind ent f, b⟩).1.T, (turnR b (betweenF l f b).reverse 1 ⟨T, l, ent, rfind ent f, b⟩).1.l, (turnR b (betweenF l f b).reverse 1 ⟨T, l, ent, rfind ent f, b⟩).1.ent, (turnR b (betweenF l f b).reverse 1 ⟨T, l, ent, rfind ent f, b⟩).2)) := Lib.hid rfl
  rw [← hB] at HG HNE HT hbl
  have HU : Hid (underF l f = if 0 < i then l.getD (i - 1) 0 else 0) := Lib.hid (by
    rw [underF, hi]
    have : (0 : Int) < (i : Int) ↔ 0 < i := by omega
    simp only [this]
    rfl)
  obtain ⟨p1, hp1⟩ : ∃ p1, p1 = i + 1 := ⟨_, rfl⟩
  obtain ⟨p2, hp2⟩ : ∃ p2, p2 = i + 1 + Bt.length := ⟨_, rfl⟩
  have hFf : ∀ u, LD w0 B rb sb lb ex T l ent on u → Calls Tryz.prog 63 #[.pointer (some ⟨sb, 0, none⟩), .int .i64 f] u fun e w' => e = .returned (.int .i64 ((p1 : Int) - 1)) ∧ u = w' := fun u hu => by
    have := dFind_ld hu f
    rw [hi, show ((i : Nat) : Int) = (p1 : Int) - 1 by omega] at this
    exact this
  have hFb : ∀ u, LD w0 B rb sb lb ex T l ent on u → Calls Tryz.prog 63 #[.pointer (some ⟨sb, 0, none⟩), .int .i64 b] u fun e w' => e = .returned (.int .i64 (p2 : Int)) ∧ u = w' := fun u hu => by
    have := dFind_ld hu b
    rw [← hbl, hi, show (((i : Nat) : Int) + 1 + Bt.length) = (p2 : Int) by omega] at this
    exact this
  have HFf := Lib.hid hFf
  have HFb := Lib.hid hFb
  have hkeep := mem_rfind.2 hf
  have hkl := (rfind_spec ent f).2.1
  have hp2l : p2 < l.length := by
    have := (rfind_spec l b).2.1
    omega
  rw [hi] at HG
  rw [show ((i : Int)).toNat = i from rfl] at HG
  obtain ⟨g0, o0, rfl⟩ := hat.some_of (by intro h; have := congrArg List.length h; rw [intsV_length, List.length_nil] at this; omega)
  have hbt : At w (some ⟨g0, o0 + p1, none⟩) (intsV Bt) := fun j v hj => by
    have hjl : j < Bt.length := by
      have := (List.getElem?_eq_some_iff.1 hj).1
      rwa [intsV_length] at this
    obtain ⟨hm, hk⟩ := HG.out j hjl
    rw [intsV_get Bt j hjl, Option.some.injEq] at hj
    subst hj
    have h1 := hat.get (intsV_get l (i + 1 + j) hm)
    refine ⟨g0, o0 + p1, rfl, ?_⟩
    rw [hk, hp1, Nat.add_assoc]
    exact h1
  have HAt := Lib.hid hat
  have HBt := Lib.hid (hbt.below ((Below.refl w.heap.size w).drew.alloc (Nat.le_refl _) (.cells #[] 3)))
  have HF := Lib.hid hf
  have HKI : Hid (KpI f T ent (rfind ent f) Bt) := Lib.hid ⟨hkeep, Int.le_of_lt hkl, hf, hen, fun y hy => by
    obtain ⟨j, hj, rfl⟩ := List.getElem_of_mem hy
    obtain ⟨hm, hk⟩ := HG.out j hj
    rw [hk]
    exact hln _ (List.getElem_mem hm)⟩
  have hp12 : (p1 : Int) ≤ (p2 : Int) := by omega
  have hp2c : (p2 : Int) ≤ (vc : Int) := by omega
  have hp1c : ¬ p1 = vc := by omega
  have hw1 : IntKind.i64.wrap ((p1 : Int) - 1 + 1) = (p1 : Int) := by rw [IntKind.wrap_i64]; omega
  have hw2 : IntKind.i64.wrap (p1 : Int) = (p1 : Int) := by rw [IntKind.wrap_i64]; omega
  have hq0 : (0 : Int) ≤ (p1 : Int) := by omega
  have hq1 : ¬ vc = p1 := by omega
  have hq2 : (p1 : Int) < (vc : Int) := by omega
  have hq3 : p1 < vc := by omega
  have HP2 := Lib.hid (show p2 - p1 = Bt.length by omega)
  have HP1 := Lib.hid hp1
  have HN1 := Lib.hid (show (intsV Bt).length = (p2 - p1) * 1 by rw [intsV_length]; omega)
  have b0 : 0 + (p2 - p1) ≤ maxLen := by unfold maxLen; omega
  have b1 : (0 + (p2 - p1)) * 8 ≤ 140737488355328 := by omega
  obtain ⟨i0, hi0, hz0, hz1, hz2⟩ := info_parts stk_int
  have HE : Hid ((w.drew.alloc (.cells #[] 3)).ownsRow w.heap.size 3 1 (.slice (some ⟨w.heap.size, 0, none⟩) 0 0) 0 []) := Lib.hid (World.ownsRow_lit w.drew #[] 0 (Nat.le_refl _) (Nat.zero_le _) rfl)
  have HZ : Hid (w.heap.size ≤ (w.drew.alloc (.cells #[] 3)).heap.size) := by show _ ≤ _; simp
  have hbl1 := hbl
  unfold maxLen at hvm
  clear h hB hFf hFb hbl hbl1 hi h0 hfb hf hat hbt hen hln hkeep hkl hp1 hp2
  generalize underF l f = un at *
  have HAf := Lib.hid (fun (e' : Nat → Prop) (u : World) (hu : LD w0 B rb sb lb e' T l ent on u) => at_ld hu f)
  generalize rfind ent f = kp0 at *
  have q1 : w.drew.cell? ⟨lb, 1, none⟩ = some (.pointer (some ⟨sb, 0, none⟩)) := c1
  have q2 : w.drew.cell? ⟨sb, 1, none⟩ = some (.slice (some ⟨g0, o0, none⟩) l.length vc) := s1
  have HBE := Lib.hid ((Below.refl w.drew.heap.size w.drew).alloc (Nat.le_refl _) (.cells #[] 3))
  have HBD := Lib.hid (Below.refl w.heap.size w).drew
  have FA := Lib.hid (HFf.out _ (HL.out.world HBD.out))
  have FAE := Lib.hid (HFf.out _ (HL.out.world (((Below.refl w.heap.size w).alloc (Nat.le_refl _) (.cells #[] 3)).drew)))
  have FB := Lib.hid (HFb.out _ (HL.out.world HBD.out))
  have FBE := Lib.hid (HFb.out _ (HL.out.world (((Below.refl w.heap.size w).alloc (Nat.le_refl _) (.cells #[] 3)).drew)))
  go_enter Tryz.func67, Tryz.ntmps67
  go_upto_region 1 with fail
  go_cut [7] from 19 to 41 (fun s7 wx => ∃ v, s7 = v ∧ wx.ownsRow w.heap.size 3 1 v Bt.length (intsV Bt) ∧ Below w.heap.size w wx)
  case first =>
    go_region_held3 (fun u => u.cell? ⟨lb, 1, none⟩ = some (.pointer (some ⟨sb, 0, none⟩)) ∧ u.cell? ⟨sb, 1, none⟩ = some (.slice (some ⟨g0, o0, none⟩) l.length vc))
      (first | exact ⟨q1, q2⟩ | with_reducible exact keepT2 HBE.out ⟨q1, q2⟩ | with_reducible exact keepT2 HB2.out ⟨q1, q2⟩)
      (first
        | (go_simp; go_at_call_of 63 (Value.int .i64 f); first | with_reducible refine FA.out.mono ?_ | with_reducible refine FAE.out.mono ?_
           rintro e w1 ⟨rfl, rfl⟩)
        | (go_simp; go_at_call_of 63 (Value.int .i64 b); first | with_reducible refine FB.out.mono ?_ | with_reducible refine FBE.out.mono ?_
           rintro e w1 ⟨rfl, rfl⟩)
        | (refine step_append_slice (by rfl) (.tmp 19) (.tmp 40) _ (by rfl) w.heap.size 3 i0 _ 1 8 Tryz.underlying30 hi0 hz0 hz1 hz2 rfl (by decide) _ 0 [] (by rfl) HE.out (some ⟨g0, o0 + p1, none⟩) (p2 - p1) (vc - p1) (intsV Bt) (by rfl) HN1.out (fun e => by cases e) HBt.out (intsV_one _) b0 b1 HZ.out ?_
           intro v2 w2 hown2 hgr2
           simp only [Nat.zero_add, List.nil_append] at hown2
           have HB2 := Lib.hid (((Below.refl w.heap.size w.drew).alloc (Nat.le_refl _) (.cells #[] 3)).grown hgr2 HZ.out (fun b h => (HE.out.lt b h).1))
           have HO2 := Lib.hid hown2
           clear hown2 hgr2))
    all_goals go_wp2_with fail
    all_goals go_meet
    all_goals exact ⟨_, rfl, by rw [← HP2.out]; exact HO2.out, belowCall HBD.out HB2.out⟩
  case rest =>
  obtain ⟨v, rfl, ho, hb⟩ := hcut
  obtain ⟨w1, hw1⟩ : ∃ u : World, u = wc := ⟨_, rfl⟩
  subst hw1
  obtain ⟨a1, m1, rfl, _, _, _, hat1⟩ := own_at ho
  obtain ⟨ex', hex⟩ : ∃ e : Nat → Prop, e = fun k => ex k ∨ (Value.slice a1 Bt.length m1).ownBlock = some k := ⟨_, rfl⟩
  have hL1 : LD w0 B rb sb lb ex' T l ent on w1 := HL.out.foreign (F := fun _ => False) (Keeps.ofBelow hb) (fun _ h => h.elim) (fun k hk => by
    rw [hex] at hk
    rcases hk with hk | hk
    · exact ⟨.inl hk, Nat.lt_of_lt_of_le (HL.out.exlt k hk) hb.size⟩
    · exact ⟨.inr (ho.lt k hk).1, (ho.lt k hk).2⟩)
  have HA1 : Hid (AtF (Own w0 ex') w1 a1 (intsV Bt)) := Lib.hid (AtF.of_new hat1 (fun b o s hb => by
    subst hb
    exact fun hx => hx.2 (by rw [hex]; exact .inr rfl)))
  have HEX : Hid (∀ k, ex k → ex' k) := Lib.hid (fun k hk => by rw [hex]; exact .inl hk)
  have HL1 := Lib.hid hL1
  have HB := Lib.hid hb
  have d1 := cell_later hb c1
  have t1 := cell_later hb s1
  have HAt1 := Lib.hid (HAt.out.below hb)
  have HFf1 : Hid (∀ u, LD w0 B rb sb lb ex' T l ent on u → Calls Tryz.prog 63 #[.pointer (some ⟨sb, 0, none⟩), .int .i64 f] u fun e w' => e = .returned (.int .i64 ((p1 : Int) - 1)) ∧ u = w') := Lib.hid (fun u hu => HFf.out u (hu.less HEX.out))
  clear hL1 hex hb ho hat1 HFf HFb FA FAE FB FBE HBE HBD q1 q2 HBt HE HZ HN1 c0 c1 s0 s1 HAt b0 b1
  go_upto_if 48 with (go_at_call 63; go_must (refine (HFf1.out _ HL1.out).mono ?_; rintro e w2 ⟨rfl, rfl⟩))
  go_cut [8] from 47 to 64 (fun s8 wx => s8 = .int .i64 un ∧ ∃ q, wx = w1.drewN q)
  case first =>
    by_cases hi0 : 0 < i
    · obtain ⟨j, rfl⟩ : ∃ j, i = j + 1 := ⟨i - 1, by omega⟩
      have hp1' := HP1.out
      have hjl : j < l.length := by omega
      have hx := HAt1.out.get (intsV_get l j hjl)
      have hU : un = l[j] := by
        rw [HU.out, if_pos hi0]
        simp [List.getD, List.getElem?_eq_getElem hjl]
      have HU2 := Lib.hid hU
      have hgt : (0 : Int) < (p1 : Int) - 1 := by omega
      have hwj : IntKind.i64.wrap ((p1 : Int) - 1 - 1) = (j : Int) := by rw [IntKind.wrap_i64]; omega
      clear hU hp1'
      go_wp2_with fail
      go_quiet ((go_at_call 63; exact (HFf1.out _ (HL1.out.world (stk_drewN _ _))).mono fun e w' ⟨he, hw⟩ => ⟨he, _, hw.symm⟩))
      go_wp2_with fail
      go_meet
      exact ⟨congrArg _ HU2.out.symm, _, rfl⟩
    · have hU : un = 0 := by rw [HU.out, if_neg hi0]
      have HU2 := Lib.hid hU
      have hp1' := HP1.out
      have hgt : ¬ (0 : Int) < (p1 : Int) - 1 := by omega
      clear hU hp1'
      go_wp2_with fail
      go_meet
      exact ⟨congrArg _ HU2.out.symm, 0, rfl⟩
  case rest =>
  obtain ⟨rfl, q, hwd⟩ := hcut
  obtain ⟨wd, hwd2⟩ : ∃ u : World, u = wc := ⟨_, rfl⟩
  subst hwd2
  have hLd : LD w0 B rb sb lb ex' T l ent on wd := by rw [hwd]; exact HL1.out.world (stk_drewN _ _)
  have HAd : Hid (AtF (Own w0 ex') wd a1 (intsV Bt)) := Lib.hid (by rw [hwd]; exact HA1.out.kept (Keeps.ofBelow (stk_drewN _ _)))
  have HKd : Hid (Keeps (Own w0 ex) w wd) := Lib.hid (by rw [hwd]; exact (Keeps.ofBelow HB.out).trans (Keeps.ofBelow (stk_drewN _ _)))
  clear hwd HFf1 HL1 HA1 HAt1 HB d1 t1
  have HLd := Lib.hid hLd
  obtain ⟨-, -, e0, e1, -⟩ := hLd.cells
  obtain ⟨kn, rfl⟩ := Int.eq_ofNat_of_zero_le HKI.out.k0
  have hkn := HKI.out.k1
  have HPt := Lib.hid (put_ld hLd kn (by omega) (-2) (by omega))
  have HKI2 : Hid (KpI f T ent kn (Bt.take Bt.length).reverse) := Lib.hid (by
    rw [List.take_of_length_le (Nat.le_refl _)]
    exact ⟨HKI.out.k0, HKI.out.k1, HKI.out.mem, HKI.out.el, fun y hy => HKI.out.one y (List.mem_reverse.1 hy)⟩)
  have HTB := Lib.hid (show Bt.take Bt.length = Bt from List.take_of_length_le (Nat.le_refl _))
  have HBL : Hid (Bt.length < l.length) := Lib.hid (by have := HP2.out; omega)
  clear hLd HKI hp12 hp2c hp1c hw1 hw2 hq0 hq1 hq2 hq3 HU HF HL hi0 hz0 hz1 hz2 hp2l hvc hvm
  go_wp2_with (first | (go_at_call 62; go_must (refine (HAf.out _ _ HLd.out).mono ?_; rintro e w2 ⟨rfl, rfl⟩)) | (go_at_call 103; go_must (refine HPt.out.mono ?_; rintro e w3 ⟨rfl, h3, k3⟩; have H3 := Lib.hid h3; have K3 := Lib.hid k3; clear h3 k3)))
  clear HPt HAf
  go_loopw [9, 10] (fun s9 s10 wr => ∃ (k c kq : Nat) (S : TS), k ≤ Bt.length ∧ s9 = .int .i64 S.last ∧ s10 = .int .i64 c ∧ c + k = Bt.length + 1 ∧ S.keep = kq ∧ Hid (LD w0 B rb sb lb ex' S.T S.l (insAt S.ent kq (-2)) on wr) ∧ Hid (Keeps (Own w0 ex') wd wr) ∧ Hid (turnR b Bt.reverse 1 ⟨T, l, ent, kn, b⟩ = turnR b (Bt.take k).reverse c S) ∧ Hid (S.l.length ≤ l.length ∧ S.ent.length ≤ ent.length) ∧ Hid (KpI f S.T S.ent kq (Bt.take k).reverse)) (fun _ s10 _ => Bt.length + 1 - (intOf s10).toNat)
  case atStart => exact ⟨Bt.length, 1, kn, ⟨T, l, ent, kn, b⟩, Nat.le_refl _, rfl, rfl, by omega, rfl, H3, K3, Lib.hid (by rw [HTB.out]), Lib.hid ⟨Nat.le_refl _, Nat.le_refl _⟩, HKI2⟩
  case round =>
    obtain ⟨k, c, kq, S, hk, rfl, rfl, hck, hkp, HLr, HKr, HV, HS, HKq⟩ := hrel
    obtain ⟨T1, l1, e1, kp, la⟩ := S
    simp only at HLr HV HS HKq hkp ⊢
    subst hkp
    obtain ⟨-, -, y0, y1, -⟩ := HLr.out.cells
    have hkq1 : kq ≤ e1.length := by have := HKq.out.k1; omega
    have hel : e1.length + 1 < 1000000 := by have := HS.out.2; omega
    have hll : l1.length < 1000000 := by have := HS.out.1; omega
    cases k with
    | zero =>
      have hcn : ¬ (c : Int) ≤ (Bt.length : Int) := by omega
      have hq : turnR b Bt.reverse 1 ⟨T, l, ent, kn, b⟩ = (⟨T1, l1, e1, kq, la⟩, 0) := HV.out
      obtain ⟨p, hp⟩ : ∃ p : Int × Int, p = if un ≠ 0 then placeQ T1 l1 on un else (0, 0) := ⟨_, rfl⟩
      have HT2 : Hid (turnL T l ent on f b = closeL (putE T1 p.1 p.2 la).1 l1 e1 f b kq) := Lib.hid (by
        rw [HT.out, hq, hp]
        rfl)
      have HPut : Hid (∀ u, LD w0 B rb sb lb ex' T1 l1 (insAt e1 kq (-2)) on u → Calls Tryz.prog 94 #[.pointer (some ⟨rb, 0, none⟩), .int .i64 p.1, .int .i64 p.2, .int .i64 la] u fun e w' => e = .returned (.int .i64 (putE T1 p.1 p.2 la).2) ∧ LD w0 B rb sb lb ex' (putE T1 p.1 p.2 la).1 l1 (insAt e1 kq (-2)) on w' ∧ Keeps (Own w0 ex') u w') := Lib.hid (fun u hu => dPut_ld hu _ _ _)
      have hfe := HKq.out.mem
      have hf2 : f ≠ -2 := fun h => HKq.out.no (h ▸ hfe)
      have hf0 := mem_rfind.2 hfe
      have HRK := Lib.hid (rm_kept e1 kq hkq1 (y := -2) HKq.out.no)
      have HRF := Lib.hid (rm_ins e1 kq hkq1 hf2 hfe)
      have hkf : keepF e1 f kq = ((if rfind e1 f < kq then kq - 1 else kq : Nat) : Int) := by
        unfold keepF
        split
        · push_cast; omega
        · rfl
      have HCL : Hid (closeL (putE T1 p.1 p.2 la).1 l1 e1 f b kq = if (likeF (putE T1 p.1 p.2 la).1 f).2.2 = 0 then ((putE (moveE (likeF (putE T1 p.1 p.2 la).1 f).1 b (likeF (putE T1 p.1 p.2 la).1 f).2.1).1 b 0 (likeF (putE T1 p.1 p.2 la).1 f).2.1).1, insF (rmF l1 f) b (likeF (putE T1 p.1 p.2 la).1 f).2.1, insAt (rmF e1 f) (if rfind e1 f < kq then kq - 1 else kq) (likeF (putE T1 p.1 p.2 la).1 f).2.1, 0)
          else ((likeF (putE T1 p.1 p.2 la).1 f).1, l1, e1, (likeF (putE T1 p.1 p.2 la).1 f).2.2)) := Lib.hid (by rw [closeL, hkf, Int.toNat_natCast]; rfl)
      have hok := keepF_ok hfe HKq.out.k0 HKq.out.k1
      rw [hkf] at hok
      have hkl2 : (if rfind e1 f < kq then kq - 1 else kq) ≤ (rmF e1 f).length := by have := hok.2; rw [rmF]; omega
      have hrl : (rmF e1 f).length ≤ e1.length := dropF_len _ _
      have hrl2 : (rmF l1 f).length ≤ l1.length := dropF_len _ _
      have hno2 : ¬ (-2) ∈ rmF e1 f := fun h => HKq.out.no (by
        rw [rmF, dropF, if_pos hf0] at h
        exact List.mem_of_mem_eraseIdx h)
      generalize (if rfind e1 f < kq then kq - 1 else kq) = k2 at *
      generalize rmF e1 f = e2 at *
      have HAk := Lib.hid (rfind_kept e2 k2 hkl2 (y := -2) hno2)
      have HSk := Lib.hid (fun n => set_kept e2 k2 hkl2 (-2) n)
      have hk2l : k2 < (insAt e2 k2 (-2)).length := by rw [insAt_len _ _ _ hkl2]; omega
      have hkx : ((k2 : Nat) : Int) = (k2 : Int) := rfl
      generalize putE T1 p.1 p.2 la = PT at *
      have HLk : Hid (∀ u, LD w0 B rb sb lb ex' PT.1 l1 (insAt e1 kq (-2)) on u → Calls Tryz.prog 105 #[.pointer (some ⟨rb, 0, none⟩), .int .i64 f] u fun e w' =>
          e = .returned (.tuple #[.int .i64 (likeF PT.1 f).2.1, .int .i64 (likeF PT.1 f).2.2]) ∧ LD w0 B rb sb lb ex' (likeF PT.1 f).1 l1 (insAt e1 kq (-2)) on w' ∧ Keeps (Own w0 ex') u w') := Lib.hid (fun u hu => dLike_ld hu f)
      generalize likeF PT.1 f = q at *
      obtain ⟨U2, n, er⟩ := q
      simp only at HCL HLk
      clear hq HT hok hkf hfe hf2 hf0 hno2 HV HKq
      by_cases her : er = 0
      · rw [if_pos her] at HCL
        subst her
        by_cases hun : un = 0
        · rw [if_neg (by simpa using hun)] at hp
          subst hp
          subst hun
          go_wp2_with fail
          refine (HPut.out _ HLr.out).mono ?_
          rintro e w4 ⟨rfl, h4, k4⟩
          obtain ⟨-, -, z0, z1, -⟩ := h4.cells
          have K4 := Lib.hid (HKr.out.trans k4)
          have HLk4 := Lib.hid (HLk.out _ h4)
          clear h4 k4 HLk HPut
          go_wp2_with fail
          refine HLk4.out.mono ?_
          rintro e w5 ⟨rfl, h5, k5⟩
          obtain ⟨-, -, v0, v1, -⟩ := h5.cells
          have HMv := Lib.hid (dMove_ld h5 b n)
          have K5 := Lib.hid (K4.out.trans k5)
          clear h5 k5
          go_wp2_with fail
          refine HMv.out.mono ?_
          rintro e w6 ⟨rfl, h6, k6⟩
          obtain ⟨-, -, x0, x1, -⟩ := h6.cells
          generalize (moveE U2 b n).1 = U3 at *
          have HP3 := Lib.hid (dPut_ld h6 b 0 n)
          have K6 := Lib.hid (K5.out.trans k6)
          clear h6 k6 v0 v1 HMv
          go_wp2_with fail
          refine HP3.out.mono ?_
          rintro e w7 ⟨rfl, h7, k7⟩
          generalize (putE U3 b 0 n).1 = U4 at *
          have h8 := dRemove_ld h7 f
          rw [HRF.out] at h8
          have H8 := Lib.hid h8
          have K7 := Lib.hid (K6.out.trans k7)
          clear h7 k7 h8 x0 x1 HP3
          go_wp2_with fail
          refine H8.out.mono ?_
          rintro e w8 ⟨rfl, h9, k9⟩
          obtain ⟨g9, c9, s0, s1, s2, scc, scm, sx, sf, sne, hset⟩ := h9.set k2 hk2l
          have hak := at_ld (h9.world (Below.refl w8.heap.size w8).drew) (-2)
          rw [HAk.out] at hak
          have HAK := Lib.hid hak
          have h10 := (hset n).1
          rw [HSk.out n] at h10
          have H10 := Lib.hid h10
          have K10 := Lib.hid ((K7.out.trans k9).trans (hset n).2)
          unfold maxLen at scm
          have q2 : w8.drew.cell? ⟨lb, 2, none⟩ = some (.slice (some ⟨g9, 0, none⟩) (insAt e2 k2 (-2)).length c9) := s2
          have qx : w8.drew.frozen? ⟨g9, k2, none⟩ = false := sf
          have HNE9 := Lib.hid (show lb ≠ g9 from fun e => sne e.symm)
          clear h9 k9 hset hak h10
          go_wp2_with fail
          go_region_held3 (fun u => u.cell? ⟨lb, 2, none⟩ = some (.slice (some ⟨g9, 0, none⟩) (insAt e2 k2 (-2)).length c9))
            (first | exact q2 | with_reducible exact keepSet HNE9.out q2 | with_reducible exact keepSetD HNE9.out s2)
            (first | (go_at_call 62; go_must (refine HAK.out.mono ?_; rintro e w9 ⟨rfl, rfl⟩)))
          have hbd := (Below.refl (w8.setCell ⟨g9, k2, none⟩ (.int .i64 n)).heap.size (w8.setCell ⟨g9, k2, none⟩ (.int .i64 n))).drew
          have H11 := Lib.hid (H10.out.world hbd)
          have K11 := Lib.hid (K10.out.trans (Keeps.ofBelow hbd))
          clear hbd H10 K10 s0 s1 s2 sx sf q2 qx
          generalize (w8.setCell ⟨g9, k2, none⟩ (.int .i64 n)).drew = w11 at *
          obtain ⟨-, -, t0, t1, -⟩ := H11.out.cells
          go_wp2_with fail
          refine (dSRemove_ld H11.out f).mono ?_
          rintro e w12 ⟨rfl, h12, k12⟩
          obtain ⟨-, -, u0, u1, -⟩ := h12.cells
          have HIn := Lib.hid (dSInsert_ld h12 b n (by omega))
          have K12 := Lib.hid (K11.out.trans k12)
          clear h12 k12 t0 t1
          go_wp2_with fail
          refine HIn.out.mono ?_
          rintro e w13 ⟨rfl, h13, k13⟩
          have H13 := Lib.hid h13
          have K13 := Lib.hid (HKd.out.trans ((K12.out.trans k13).mono fun _ _ hx => ⟨hx.1, fun hy => hx.2 (HEX.out _ hy)⟩))
          clear h13 k13
          go_wp2_with fail
          go_ret
          rw [HT2.out, HCL.out]
          exact ⟨rfl, H13.out.less HEX.out, K13.out⟩
        · rw [if_pos hun] at hp
          have hun' : (un == 0) = false := by simpa using hun
          have HPl := Lib.hid (dPlace_ld HLr.out un)
          rw [← hp] at HPl
          clear hp hun
          obtain ⟨pa, pb⟩ := p
          go_wp2_with fail
          refine HPl.out.mono ?_
          rintro e w3 ⟨rfl, hb3⟩
          have HKr' := Lib.hid (HKr.out.trans (Keeps.ofBelow hb3))
          have HLr' := Lib.hid (HLr.out.world hb3)
          clear HLr HKr hb3 y0 y1
          have HLr := HLr'
          have HKr := HKr'
          obtain ⟨-, -, y0, y1, -⟩ := HLr.out.cells
          go_wp2_with fail
          refine (HPut.out _ HLr.out).mono ?_
          rintro e w4 ⟨rfl, h4, k4⟩
          obtain ⟨-, -, z0, z1, -⟩ := h4.cells
          have K4 := Lib.hid (HKr.out.trans k4)
          have HLk4 := Lib.hid (HLk.out _ h4)
          clear h4 k4 HLk HPut
          go_wp2_with fail
          refine HLk4.out.mono ?_
          rintro e w5 ⟨rfl, h5, k5⟩
          obtain ⟨-, -, v0, v1, -⟩ := h5.cells
          have HMv := Lib.hid (dMove_ld h5 b n)
          have K5 := Lib.hid (K4.out.trans k5)
          clear h5 k5
          go_wp2_with fail
          refine HMv.out.mono ?_
          rintro e w6 ⟨rfl, h6, k6⟩
          obtain ⟨-, -, x0, x1, -⟩ := h6.cells
          generalize (moveE U2 b n).1 = U3 at *
          have HP3 := Lib.hid (dPut_ld h6 b 0 n)
          have K6 := Lib.hid (K5.out.trans k6)
          clear h6 k6 v0 v1 HMv
          go_wp2_with fail
          refine HP3.out.mono ?_
          rintro e w7 ⟨rfl, h7, k7⟩
          generalize (putE U3 b 0 n).1 = U4 at *
          have h8 := dRemove_ld h7 f
          rw [HRF.out] at h8
          have H8 := Lib.hid h8
          have K7 := Lib.hid (K6.out.trans k7)
          clear h7 k7 h8 x0 x1 HP3
          go_wp2_with fail
          refine H8.out.mono ?_
          rintro e w8 ⟨rfl, h9, k9⟩
          obtain ⟨g9, c9, s0, s1, s2, scc, scm, sx, sf, sne, hset⟩ := h9.set k2 hk2l
          have hak := at_ld (h9.world (Below.refl w8.heap.size w8).drew) (-2)
          rw [HAk.out] at hak
          have HAK := Lib.hid hak
          have h10 := (hset n).1
          rw [HSk.out n] at h10
          have H10 := Lib.hid h10
          have K10 := Lib.hid ((K7.out.trans k9).trans (hset n).2)
          unfold maxLen at scm
          have q2 : w8.drew.cell? ⟨lb, 2, none⟩ = some (.slice (some ⟨g9, 0, none⟩) (insAt e2 k2 (-2)).length c9) := s2
          have qx : w8.drew.frozen? ⟨g9, k2, none⟩ = false := sf
          have HNE9 := Lib.hid (show lb ≠ g9 from fun e => sne e.symm)
          clear h9 k9 hset hak h10
          go_wp2_with fail
          go_region_held3 (fun u => u.cell? ⟨lb, 2, none⟩ = some (.slice (some ⟨g9, 0, none⟩) (insAt e2 k2 (-2)).length c9))
            (first | exact q2 | with_reducible exact keepSet HNE9.out q2 | with_reducible exact keepSetD HNE9.out s2)
            (first | (go_at_call 62; go_must (refine HAK.out.mono ?_; rintro e w9 ⟨rfl, rfl⟩)))
          have hbd := (Below.refl (w8.setCell ⟨g9, k2, none⟩ (.int .i64 n)).heap.size (w8.setCell ⟨g9, k2, none⟩ (.int .i64 n))).drew
          have H11 := Lib.hid (H10.out.world hbd)
          have K11 := Lib.hid (K10.out.trans (Keeps.ofBelow hbd))
          clear hbd H10 K10 s0 s1 s2 sx sf q2 qx
          generalize (w8.setCell ⟨g9, k2, none⟩ (.int .i64 n)).drew = w11 at *
          obtain ⟨-, -, t0, t1, -⟩ := H11.out.cells
          go_wp2_with fail
          refine (dSRemove_ld H11.out f).mono ?_
          rintro e w12 ⟨rfl, h12, k12⟩
          obtain ⟨-, -, u0, u1, -⟩ := h12.cells
          have HIn := Lib.hid (dSInsert_ld h12 b n (by omega))
          have K12 := Lib.hid (K11.out.trans k12)
          clear h12 k12 t0 t1
          go_wp2_with fail
          refine HIn.out.mono ?_
          rintro e w13 ⟨rfl, h13, k13⟩
          have H13 := Lib.hid h13
          have K13 := Lib.hid (HKd.out.trans ((K12.out.trans k13).mono fun _ _ hx => ⟨hx.1, fun hy => hx.2 (HEX.out _ hy)⟩))
          clear h13 k13
          go_wp2_with fail
          go_ret
          rw [HT2.out, HCL.out]
          exact ⟨rfl, H13.out.less HEX.out, K13.out⟩
      · rw [if_neg her] at HCL
        have her' : (er == 0) = false := by simpa using her
        clear her
        by_cases hun : un = 0
        · rw [if_neg (by simpa using hun)] at hp
          subst hp
          subst hun
          go_wp2_with fail
          refine (HPut.out _ HLr.out).mono ?_
          rintro e w4 ⟨rfl, h4, k4⟩
          obtain ⟨-, -, z0, z1, -⟩ := h4.cells
          have K4 := Lib.hid (HKr.out.trans k4)
          have HLk4 := Lib.hid (HLk.out _ h4)
          clear h4 k4 HLk HPut
          go_wp2_with fail
          refine HLk4.out.mono ?_
          rintro e w5 ⟨rfl, h5, k5⟩
          have h6 := dRemove_ld h5 (-2)
          rw [HRK.out] at h6
          have H6 := Lib.hid h6
          have K5 := Lib.hid (K4.out.trans k5)
          clear h5 k5 h6
          go_wp2_with fail
          refine H6.out.mono ?_
          rintro e w6 ⟨rfl, h7, k7⟩
          have H7 := Lib.hid h7
          have K7 := Lib.hid (HKd.out.trans ((K5.out.trans k7).mono fun _ _ hx => ⟨hx.1, fun hy => hx.2 (HEX.out _ hy)⟩))
          clear h7 k7
          go_wp2_with fail
          go_ret
          rw [HT2.out, HCL.out]
          exact ⟨rfl, H7.out.less HEX.out, K7.out⟩
        · rw [if_pos hun] at hp
          have hun' : (un == 0) = false := by simpa using hun
          have HPl := Lib.hid (dPlace_ld HLr.out un)
          rw [← hp] at HPl
          clear hp hun
          obtain ⟨pa, pb⟩ := p
          go_wp2_with fail
          refine HPl.out.mono ?_
          rintro e w3 ⟨rfl, hb3⟩
          have HKr' := Lib.hid (HKr.out.trans (Keeps.ofBelow hb3))
          have HLr' := Lib.hid (HLr.out.world hb3)
          clear HLr HKr hb3 y0 y1
          have HLr := HLr'
          have HKr := HKr'
          obtain ⟨-, -, y0, y1, -⟩ := HLr.out.cells
          go_wp2_with fail
          refine (HPut.out _ HLr.out).mono ?_
          rintro e w4 ⟨rfl, h4, k4⟩
          obtain ⟨-, -, z0, z1, -⟩ := h4.cells
          have K4 := Lib.hid (HKr.out.trans k4)
          have HLk4 := Lib.hid (HLk.out _ h4)
          clear h4 k4 HLk HPut
          go_wp2_with fail
          refine HLk4.out.mono ?_
          rintro e w5 ⟨rfl, h5, k5⟩
          have h6 := dRemove_ld h5 (-2)
          rw [HRK.out] at h6
          have H6 := Lib.hid h6
          have K5 := Lib.hid (K4.out.trans k5)
          clear h5 k5 h6
          go_wp2_with fail
          refine H6.out.mono ?_
          rintro e w6 ⟨rfl, h7, k7⟩
          have H7 := Lib.hid h7
          have K7 := Lib.hid (HKd.out.trans ((K5.out.trans k7).mono fun _ _ hx => ⟨hx.1, fun hy => hx.2 (HEX.out _ hy)⟩))
          clear h7 k7
          go_wp2_with fail
          go_ret
          rw [HT2.out, HCL.out]
          exact ⟨rfl, H7.out.less HEX.out, K7.out⟩
    | succ k =>
      have hkB : k < Bt.length := by omega
      have hcc : (c : Int) ≤ (Bt.length : Int) := by omega
      have hwk : IntKind.i64.wrap ((Bt.length : Int) - (c : Int)) = (k : Int) := by rw [IntKind.wrap_i64]; have := HBL.out; omega
      have hne := HNE.out k hkB
      obtain ⟨b1, o1, rfl, hcell⟩ := (HAd.out.kept HKr.out).at _ _ (intsV_get Bt k hkB)
      have HRV : Hid (turnR b Bt.reverse 1 ⟨T, l, ent, kn, b⟩ = turnR b (Bt[k] :: (Bt.take k).reverse) c ⟨T1, l1, e1, kq, la⟩) := Lib.hid (by rw [← rev_step]; exact HV.out)
      have HKx : Hid (KpI f T1 e1 kq (Bt[k] :: (Bt.take k).reverse)) := Lib.hid (by rw [← rev_step]; exact HKq.out)
      obtain ⟨x, hx⟩ : ∃ x, x = Bt[k] := ⟨_, rfl⟩
      rw [← hx] at hne HRV hcell HKx
      have HM : Hid (c + (k + 1) = Bt.length + 1) := Lib.hid hck
      have hc1 : c ≤ 1000001 := by have := HBL.out; omega
      have HNx := Lib.hid hne
      have hx2 : x ≠ -2 := by have := (elem_pos (HKx.out.one x List.mem_cons_self).2).1; omega
      have HX2 := Lib.hid hx2
      clear hx HV HKq hne hx2
      by_cases hin : x ∈ e1
      · obtain ⟨hcx, hK2, hl2⟩ := HKx.out.drop hin HNx.out
        have h0 := mem_rfind.2 hin
        by_cases h3 : 3 < c
        · have h3i : (3 : Int) < (c : Int) := by omega
          have hkd : (if rfind e1 x < (kq : Int) then (kq : Int) - 1 else kq) = ((if rfind e1 x < kq then kq - 1 else kq : Nat) : Int) := by
            split
            · push_cast; omega
            · rfl
          have HR2 : Hid (turnR b Bt.reverse 1 ⟨T, l, ent, kn, b⟩ = turnR b (Bt.take k).reverse (c + 1) ⟨T1, rmF l1 x, rmF e1 x, ((if rfind e1 x < kq then kq - 1 else kq : Nat) : Int), la⟩) := Lib.hid (by rw [HRV.out, turnR, if_pos h0, if_pos h3, hkd]; rfl)
          have hrm := dRemove_ld HLr.out x
          rw [rm_ins e1 kq hkq1 HX2.out hin] at hrm
          have HRm := Lib.hid hrm
          have hno := rm_absent (k := if rfind e1 x < kq then kq - 1 else kq) (by have := hK2.k1; omega) (mem_none.2 (rm_one hcx)) HX2.out
          have HRl := Lib.hid (show (rmF l1 x).length ≤ l1.length from dropF_len l1 (rfind l1 x))
          have HK2 := Lib.hid hK2
          generalize (if rfind e1 x < kq then kq - 1 else kq) = kq2 at *
          generalize rmF e1 x = e2 at *
          have HAx : Hid (∀ u, LD w0 B rb sb lb ex' T1 l1 (insAt e2 kq2 (-2)) on u → Calls Tryz.prog 62 #[.pointer (some ⟨lb, 0, none⟩), .int .i64 x] u fun e w' => e = .returned (.int .i64 (rfind (insAt e2 kq2 (-2)) x)) ∧ u = w') := Lib.hid (fun u hu => at_ld hu x)
          obtain ⟨hno1, -⟩ := hno
          generalize rfind (insAt e2 kq2 (-2)) x = r0 at *
          have HL2 := Lib.hid hl2
          clear HRV hkd hK2 h0 hin hcx hrm HKx hl2
          go_wp2_with (go_at_call 65; go_must (refine HRm.out.mono ?_; rintro e w3 ⟨rfl, h3', k3⟩; obtain ⟨-, -, z0, z1, -⟩ := h3'.cells; have HA3 := Lib.hid (HAx.out _ h3'); have H3 := Lib.hid h3'; have K3 := Lib.hid (HKr.out.trans k3); clear h3' k3))
          refine HA3.out.mono ?_
          rintro e w3' ⟨rfl, rfl⟩
          go_wp2_with fail
          refine (dSRemove_ld H3.out x).mono ?_
          rintro e w4 ⟨rfl, h4, k4⟩
          have H4 := Lib.hid h4
          have K4 := Lib.hid (K3.out.trans k4)
          clear h4 k4
          go_wp2_with fail
          go_roundw
          case rel => exact ⟨k, c + 1, kq2, ⟨T1, rmF l1 x, e2, kq2, la⟩, by omega, rfl, by go_num, by omega, rfl, H4, K4, HR2, Lib.hid ⟨Nat.le_trans HRl.out HS.out.1, by have := HL2.out; have := HS.out.2; show e2.length ≤ _; omega⟩, HK2⟩
          case measure => simp [intOf]; omega
        · have h3i : ¬ (3 : Int) < (c : Int) := by omega
          obtain ⟨j, hj⟩ := Int.eq_ofNat_of_zero_le h0
          have hje : j < e1.length := by have := (rfind_spec e1 x).2.1; omega
          have HRC : Hid (turnR b Bt.reverse 1 ⟨T, l, ent, kn, b⟩ = if (likeF T1 x).2.2 = 0 then
              turnR b (Bt.take k).reverse (c + 1) ⟨(putE (likeF T1 x).1 (likeF T1 x).2.1 0 la).1, swapF l1 x (likeF T1 x).2.1, e1.set j (likeF T1 x).2.1, if la = b then ((j + 1 : Nat) : Int) else kq, (likeF T1 x).2.1⟩
            else (⟨(likeF T1 x).1, l1, e1, kq, la⟩, (likeF T1 x).2.2)) := Lib.hid (by rw [HRV.out, turnR, if_pos h0, if_neg h3]; simp only [hj]; rfl)
          obtain ⟨jm, hjm⟩ : ∃ jm, jm = if j < kq then j else j + 1 := ⟨_, rfl⟩
          have hjml : jm < (insAt e1 kq (-2)).length := by rw [insAt_len _ _ _ hkq1, hjm]; split <;> omega
          have hat : rfind (insAt e1 kq (-2)) x = (jm : Int) := by
            rw [rfind_ins e1 kq hkq1 HX2.out, hj, hjm]
            by_cases h : j < kq
            · rw [if_pos (by omega), if_pos h]
            · rw [if_neg (by omega), if_neg h]; push_cast; rfl
          have HAx : Hid (∀ {T' : TreeD} u, LD w0 B rb sb lb ex' T' l1 (insAt e1 kq (-2)) on u → Calls Tryz.prog 62 #[.pointer (some ⟨lb, 0, none⟩), .int .i64 x] u fun e w' => e = .returned (.int .i64 (jm : Int)) ∧ u = w') := Lib.hid (fun u hu => by
            have := at_ld hu x
            rw [hat] at this
            exact this)
          have HSet := Lib.hid (fun n => (show (insAt e1 kq (-2)).set jm n = insAt (e1.set j n) kq (-2) from by rw [hjm]; exact ins_set e1 kq hkq1 (-2) n hje))
          have HLk := Lib.hid (dLike_ld HLr.out x)
          have HNw := Lib.hid (likeF_new (T := T1) (x := x))
          have HMr := Lib.hid (likeF_mor T1 x)
          have HMp := Lib.hid (fun n => putE_mor (likeF T1 x).1 n 0 la)
          have HKs := Lib.hid (fun (U : TreeD) n (hn : n = (T1.nodes.length : Int)) (hm : Mor T1 U) (he : elemF U n = true) (kz : Int) (q0 : 0 ≤ kz) (q1 : kz ≤ e1.length) => by
            have := HKx.out.set hin HNx.out hn hm he q0 q1
            rw [hj, show ((j : Int)).toNat = j from rfl] at this
            exact this)
          have HRl := Lib.hid (fun n => swapF_len l1 x n)
          have HNO := Lib.hid HKx.out.no
          generalize likeF T1 x = q at *
          obtain ⟨T2, n, er⟩ := q
          simp only at HLk HRC HNw HMr HMp
          clear HRV h0 hin hcx hK2 hl2 hj hat hjm h3 HKx
          by_cases her : er = 0
          · rw [if_pos her] at HRC
            subst her
            obtain ⟨hn1, hn2⟩ := HNw.out rfl
            rw [← hn1] at hn2
            have HN1 := Lib.hid hn1
            have HN2 := Lib.hid hn2
            clear HNw hn1 hn2
            have hnn : ¬ n ∈ e1 := (HKs.out T2 n HN1.out HMr.out HN2.out 0 (Int.le_refl _) (by omega)).2
            have HRF := Lib.hid (rfind_set hnn hje)
            have HRK := Lib.hid (rm_kept (e1.set j n) kq (by rw [List.length_set]; exact hkq1) (y := -2) (fun h => by
              rcases mem_set_or h with h | h
              · exact HNO.out h
              · have := HN1.out; omega))
            have HLS : Hid ((e1.set j n).length = e1.length) := Lib.hid (List.length_set ..)
            have HSt := Lib.hid (HSet.out n)
            have HKS := Lib.hid (fun (kz : Int) (q0 : 0 ≤ kz) (q1 : kz ≤ e1.length) => (HKs.out (putE T2 n 0 la).1 n HN1.out (HMr.out.trans (HMp.out n)) ((HMp.out n).2.2 _ HN2.out) kz q0 q1).1)
            generalize e1.set j n = e2 at *
            clear hnn HKs HSet HNO HN1 HN2 HMr HMp
            go_wp2_with fail
            refine (HAx.out _ HLr.out).mono ?_
            rintro e w2 ⟨rfl, rfl⟩
            go_wp2_with (go_at_call 105; go_must (refine HLk.out.mono ?_; rintro e w3 ⟨rfl, h3', k3⟩; obtain ⟨-, -, z0, z1, -⟩ := h3'.cells; have H3 := Lib.hid h3'; have K3 := Lib.hid (HKr.out.trans k3); clear h3' k3))
            refine (HAx.out _ H3.out).mono ?_
            rintro e w3' ⟨rfl, rfl⟩
            obtain ⟨g3, c3, v0, v1, v2, vcc, vm, vx, vf, vne, hset⟩ := H3.out.set jm hjml
            have h4 := (hset n).1
            rw [HSt.out] at h4
            obtain ⟨-, -, x0, x1, -⟩ := h4.cells
            have H4 := Lib.hid h4
            have K4 := Lib.hid (K3.out.trans (hset n).2)
            unfold maxLen at vm
            clear h4 hset HSt HAx
            go_wp2_with fail
            refine (dSwap_ld H4.out x n).mono ?_
            rintro e w5 ⟨rfl, h5, k5⟩
            obtain ⟨-, -, x0', x1', -⟩ := h5.cells
            have H5 := Lib.hid h5
            have K5 := Lib.hid (K4.out.trans k5)
            clear h5 k5 x0 x1 v0 v1 v2 vx vf
            by_cases hlb : la = b
            · rw [if_pos hlb] at HRC
              subst hlb
              have h6 := dRemove_ld H5.out (-2)
              rw [HRK.out] at h6
              have H6 := Lib.hid h6
              clear h6
              go_wp2_with (go_at_call 65; go_must (refine H6.out.mono ?_; rintro e w6 ⟨rfl, h7, k7⟩; have H7 := Lib.hid h7; have K7 := Lib.hid (K5.out.trans k7); clear h7 k7))
              have h8 := at_ld H7.out n
              rw [HRF.out] at h8
              refine h8.mono ?_
              rintro e w7 ⟨rfl, rfl⟩
              have HP9 := Lib.hid (put_ld H7.out (j + 1) (by have := HLS.out; omega) (-2) (by have := HLS.out; omega))
              clear h8
              go_wp2_with (go_at_call 103; go_must (refine HP9.out.mono ?_; rintro e w8 ⟨rfl, h9, k9⟩; obtain ⟨-, -, u0, u1', -⟩ := h9.cells; have HPt := Lib.hid (dPut_ld h9 n 0 la); have K9 := Lib.hid (K7.out.trans k9); clear h9 k9))
              refine HPt.out.mono ?_
              rintro e w9 ⟨rfl, h10, k10⟩
              have H10 := Lib.hid h10
              have K10 := Lib.hid (K9.out.trans k10)
              clear h10 k10
              go_wp2_with fail
              go_roundw
              case rel => exact ⟨k, c + 1, j + 1, ⟨(putE T2 n 0 la).1, swapF l1 x n, e2, ((j + 1 : Nat) : Int), n⟩, by omega, rfl, by go_num, by omega, rfl, H10, K10, HRC, Lib.hid ⟨Nat.le_trans (Nat.le_of_eq (HRl.out n)) HS.out.1, Nat.le_trans (Nat.le_of_eq HLS.out) HS.out.2⟩, Lib.hid (HKS.out _ (by omega) (by omega))⟩
              case measure => simp [intOf]; omega
            · rw [if_neg hlb] at HRC
              have hlb' : (la == b) = false := by simpa using hlb
              have HPt := Lib.hid (dPut_ld H5.out n 0 la)
              clear hlb
              go_wp2_with fail
              refine HPt.out.mono ?_
              rintro e w9 ⟨rfl, h10, k10⟩
              have H10 := Lib.hid h10
              have K10 := Lib.hid (K5.out.trans k10)
              clear h10 k10
              go_wp2_with fail
              go_roundw
              case rel => exact ⟨k, c + 1, kq, ⟨(putE T2 n 0 la).1, swapF l1 x n, e2, kq, n⟩, by omega, rfl, by go_num, by omega, rfl, H10, K10, HRC, Lib.hid ⟨Nat.le_trans (Nat.le_of_eq (HRl.out n)) HS.out.1, Nat.le_trans (Nat.le_of_eq HLS.out) HS.out.2⟩, Lib.hid (HKS.out _ (by omega) (by omega))⟩
              case measure => simp [intOf]; omega
          · rw [if_neg her] at HRC
            have her' : (er == 0) = false := by simpa using her
            have HT2 : Hid (turnL T l ent on f b = (T2, l1, e1, er)) := Lib.hid (by rw [HT.out, HRC.out, if_neg her])
            have HRK := Lib.hid (rm_kept e1 kq hkq1 (y := -2) HNO.out)
            clear HT HRC her HKs HSet HNw
            go_wp2_with fail
            refine (HAx.out _ HLr.out).mono ?_
            rintro e w2 ⟨rfl, rfl⟩
            go_wp2_with (go_at_call 105; go_must (refine HLk.out.mono ?_; rintro e w3 ⟨rfl, h3', k3⟩; have h4 := dRemove_ld h3' (-2); rw [HRK.out] at h4; have H4 := Lib.hid h4; have K3 := Lib.hid (HKr.out.trans k3); clear h3' k3 h4))
            refine H4.out.mono ?_
            rintro e w4 ⟨rfl, h5, k5⟩
            have H5 := Lib.hid h5
            have K5 := Lib.hid (HKd.out.trans ((K3.out.trans k5).mono fun _ _ hx => ⟨hx.1, fun hy => hx.2 (HEX.out _ hy)⟩))
            clear h5 k5
            go_wp2_with fail
            go_ret
            rw [HT2.out]
            exact ⟨rfl, H5.out.less HEX.out, K5.out⟩
      · obtain ⟨hno1, hno2⟩ := rm_absent hkq1 hin HX2.out
        have h0 : ¬ 0 ≤ rfind e1 x := fun h => hin (mem_rfind.1 h)
        have HR2 : Hid (turnR b Bt.reverse 1 ⟨T, l, ent, kn, b⟩ = turnR b (Bt.take k).reverse (c + 1) ⟨T1, rmF l1 x, e1, kq, la⟩) := Lib.hid (by rw [HRV.out, turnR, if_neg h0])
        have HRl := Lib.hid (show (rmF l1 x).length ≤ l1.length from dropF_len l1 (rfind l1 x))
        have HAx : Hid (∀ u, LD w0 B rb sb lb ex' T1 l1 (insAt e1 kq (-2)) on u → Calls Tryz.prog 62 #[.pointer (some ⟨lb, 0, none⟩), .int .i64 x] u fun e w' => e = .returned (.int .i64 (rfind (insAt e1 kq (-2)) x)) ∧ u = w') := Lib.hid (fun u hu => at_ld hu x)
        have hrm := dRemove_ld HLr.out x
        rw [hno2] at hrm
        have HRm := Lib.hid hrm
        have HK2 := Lib.hid HKx.out.less
        generalize rfind (insAt e1 kq (-2)) x = r0 at *
        clear HRV h0 hin hrm hno2 HKx
        by_cases h3 : 3 < c
        all_goals
          have h3i := (show (3 : Int) < (c : Int) ↔ 3 < c by omega)
          simp only [h3, iff_true, iff_false] at h3i
          go_wp2_with (first | (go_at_call 65; go_must (refine HRm.out.mono ?_; rintro e w3 ⟨rfl, h3', k3⟩; obtain ⟨-, -, z0, z1, -⟩ := h3'.cells; have HA3 := Lib.hid (HAx.out _ h3'); have H3 := Lib.hid h3'; have K3 := Lib.hid (HKr.out.trans k3); clear h3' k3)) | (go_at_call 62; go_must (first | (with_reducible refine HA3.out.mono ?_; rintro e w3' ⟨rfl, rfl⟩) | (refine (HAx.out _ HLr.out).mono ?_; rintro e w3' ⟨rfl, rfl⟩; have H3 := HLr; have K3 := HKr))))
          refine (dSRemove_ld H3.out x).mono ?_
          rintro e w4 ⟨rfl, h4, k4⟩
          have H4 := Lib.hid h4
          have K4 := Lib.hid (K3.out.trans k4)
          clear h4 k4
          go_wp2_with fail
          go_roundw
          case rel => exact ⟨k, c + 1, kq, ⟨T1, rmF l1 x, e1, kq, la⟩, by omega, rfl, by go_num, by omega, rfl, H4, K4, HR2, Lib.hid ⟨Nat.le_trans HRl.out HS.out.1, HS.out.2⟩, HK2⟩
          case measure => simp [intOf]; omega
end
end Go.Proofs.YtclflmjpdglgiaaGreat
