import Derived.Test.YtclflmjpdglgiaaGreatDmE
/-
  Contract: law 15's insert: an element, in both lists. No conditions beyond those that each lemma types.
-/
namespace Go.Proofs.YtclflmjpdglgiaaGreat
open Go.RowKit Mem

section
variable {w0 w : World} {B C tb sb lb rb qb kb xb : Nat} {S : AS} {on : Bool} {L : Nat → Prop}
set_option maxRecDepth 100000 in
set_option maxHeartbeats 8000000 in
theorem insertx_any (h : DL w0 B C tb sb lb rb qb kb S on S on L w) (hx : WX xb tb sb lb kb w) (hLx : L xb) (hI : FI S.T S.l S.ent) (xn : Int) (xs : ByteArray) (xp : Bool) (attrs : List Pair) (aa : Option Addr) (na ac : Nat) (kd : Int) (hna : na = attrs.length) (hc : aa = none → ac = 0) (hlen : attrs.length ≤ 1048576) (hat : At w0 aa (pairsV attrs)) (hl : S.l.length < 1000000) (hle : S.ent.length < 1000000) (hT1 : 1 ≤ S.T.nodes.length) :
    Calls Tryz.prog 23 #[.pointer (some ⟨xb, 0, none⟩), .agg #[.int .i64 kd, .int .i64 xn, .string xs, .bool xp, .slice aa na ac]] w fun e w' =>
      ∃ S', e = .returned (.bool true) ∧ DL w0 B C tb sb lb rb qb kb S' on S' on L w' ∧ Nxt S S' ∧ Keeps (Own w0 L) w w' := by
  have HNA := Lib.hid hna
  clear hna
  have hbx := (Below.refl w.heap.size w).alloc (Nat.le_refl _) (.cells #[.int .i64 kd, .int .i64 xn, .string xs, .bool xp, .slice aa na ac] 29)
  have hd1 := h.lay hbx
  have hk1 : Keeps (Own w0 L) w (w.alloc (.cells #[.int .i64 kd, .int .i64 xn, .string xs, .bool xp, .slice aa na ac] 29)) := Keeps.ofBelow hbx
  have hB := heap_alloc_new w (.cells #[.int .i64 kd, .int .i64 xn, .string xs, .bool xp, .slice aa na ac] 29)
  have hL1 : (fun k => L k ∨ (w.heap.size ≤ k ∧ k < (w.alloc (.cells #[.int .i64 kd, .int .i64 xn, .string xs, .bool xp, .slice aa na ac] 29)).heap.size)) w.heap.size := .inr ⟨Nat.le_refl _, by simp⟩
  have hw1 := hx.below hbx
  have HI := Lib.hid hI
  have r0 := cell_of_row _ _ 0 _ _ _ hB
  have r1 := cell_of_row _ _ 1 _ _ _ hB
  have r2 := cell_of_row _ _ 2 _ _ _ hB
  have r3 := cell_of_row _ _ 3 _ _ _ hB
  have r4 := cell_of_row _ _ 4 _ _ _ hB
  obtain ⟨gd, hgd⟩ : ∃ gd, gd = (decide ((0 : Int) < xn) && decide (xn < 3)) := ⟨_, rfl⟩
  obtain ⟨sp, hsp⟩ : ∃ sp, sp = if gd then xn else 0 := ⟨_, rfl⟩
  go_enter Tryz.func23, Tryz.ntmps23
  go_upto_region 2 with fail
  generalize w.alloc (.cells #[.int .i64 kd, .int .i64 xn, .string xs, .bool xp, .slice aa na ac] 29) = w1 at *
  obtain ⟨L1, hL1e⟩ : ∃ L1 : Nat → Prop, L1 = fun k => L k ∨ (w.heap.size ≤ k ∧ k < w1.heap.size) := ⟨_, rfl⟩
  rw [← hL1e] at hd1
  have HLL := Lib.hid (show ∀ k, L k → L1 k by rw [hL1e]; exact fun k hk => .inl hk)
  have HL1 := Lib.hid (show L1 w.heap.size by rw [hL1e]; exact hL1)
  have HLX := Lib.hid (HLL.out xb hLx)
  have HK1 := Lib.hid hk1
  have HD1 := Lib.hid hd1
  have HW1 := Lib.hid hw1
  clear h hbx hd1 hk1 hB hL1 hL1e hx hw1 hLx hI
  go_cut [17] from 10 to 17 (fun s17 wx => s17 = .bool gd ∧ wx = w1)
  case first =>
    by_cases h1 : 0 < xn
    · have hd1 : decide ((0 : Int) < xn) = true := decide_eq_true h1
      rw [hd1, Bool.true_and] at hgd
      go_wp2_with fail
      go_meet
      exact ⟨by rw [hgd], rfl⟩
    · have hd1 : decide ((0 : Int) < xn) = false := decide_eq_false h1
      rw [hd1, Bool.false_and] at hgd
      go_wp2_with fail
      go_meet
      exact ⟨by rw [hgd], rfl⟩
  case rest =>
  obtain ⟨rfl, hwc⟩ := hcut
  subst hwc
  obtain ⟨w1, hw1e⟩ : ∃ u : World, u = wc := ⟨_, rfl⟩
  subst hw1e
  clear hgd
  go_upto_if 17 with fail
  go_cut [5] from 18 to 19 (fun s5 wx => s5 = .int .i64 sp ∧ wx = w1)
  case first =>
    cases gd
    · go_wp2_with fail
      go_meet
      exact ⟨by rw [hsp]; rfl, rfl⟩
    · go_wp2_with fail
      go_meet
      exact ⟨by rw [hsp]; rfl, rfl⟩
  case rest =>
  obtain ⟨rfl, hwc⟩ := hcut
  subst hwc
  obtain ⟨w1, hw1e⟩ : ∃ u : World, u = wc := ⟨_, rfl⟩
  subst hw1e
  clear hsp
  have HAt := Lib.hid hat
  have HMn := Lib.hid (show (insertL S.T S.l on sp xs attrs).2.2.2 = 0 → (insertL S.T S.l on sp xs attrs).2.2.1 = S.T.nodes.length ∧ elemF (insertL S.T S.l on sp xs attrs).1 (insertL S.T S.l on sp xs attrs).2.2.1 = true from fun he => by
    by_cases hm : (S.T.nodes.length : Int) - 1 < S.T.most
    · obtain ⟨_, q2, _⟩ := insertL_yes hm S.l on sp xs attrs
      have q3 := congrArg Prod.fst q2
      simp only at q3
      rw [q3]
      exact ⟨rfl, insertL_new hT1 hm⟩
    · rw [insertL_no hm] at he
      cases he)
  have HN1 : Hid (Nxt S ⟨(insertL S.T S.l on sp xs attrs).1, (insertL S.T S.l on sp xs attrs).2.1, S.ent⟩) := Lib.hid ⟨HI.out.insert hT1 on sp xs attrs, insertL_mor _ _ _ _ _ _, by show S.ent.length ≤ _; omega, by have := insertL_len S.T S.l on sp xs attrs; show (insertL S.T S.l on sp xs attrs).2.1.length ≤ _; omega, fun _ h => insertL_lm h _ _ _ _ _⟩
  have HP : Hid (∀ {U : AS} {un : Bool} u, DL w0 B C tb sb lb rb qb kb S on U un L1 u → Calls Tryz.prog 16 #[.pointer (some ⟨lb, 0, none⟩), .int .i64 sp, .string xs, .slice aa na ac] u fun e w' => e = .returned (.tuple #[.int .i64 (insertL S.T S.l on sp xs attrs).2.2.1, .int .i64 (insertL S.T S.l on sp xs attrs).2.2.2]) ∧ DL w0 B C tb sb lb rb qb kb ⟨(insertL S.T S.l on sp xs attrs).1, (insertL S.T S.l on sp xs attrs).2.1, S.ent⟩ on U un L1 w' ∧ Keeps (Own w0 L1) u w') := Lib.hid (fun u hu => hu.callP (Q := fun e _ => e = .returned (.tuple #[.int .i64 (insertL S.T S.l on sp xs attrs).2.2.1, .int .i64 (insertL S.T S.l on sp xs attrs).2.2.2])) (S' := ⟨(insertL S.T S.l on sp xs attrs).1, (insertL S.T S.l on sp xs attrs).2.1, S.ent⟩) (on' := on) (fun ex _ h' => Insert_li h' hl sp xs attrs na aa ac HNA.out hc hlen (HAt.out.below hu.below)))
  have HQ : Hid (∀ {U : AS} {un : Bool} u, DL w0 B C tb sb lb rb qb kb U un S on L1 u → Calls Tryz.prog 56 #[.pointer (some ⟨kb, 0, none⟩), .int .i64 sp, .string xs, .slice aa na ac] u fun e w' => e = .returned (.tuple #[.int .i64 (insertL S.T S.l on sp xs attrs).2.2.1, .int .i64 (insertL S.T S.l on sp xs attrs).2.2.2]) ∧ DL w0 B C tb sb lb rb qb kb U un ⟨(insertL S.T S.l on sp xs attrs).1, (insertL S.T S.l on sp xs attrs).2.1, S.ent⟩ on L1 w' ∧ Keeps (Own w0 L1) u w') := Lib.hid (fun u hu => hu.callD (Q := fun e _ => e = .returned (.tuple #[.int .i64 (insertL S.T S.l on sp xs attrs).2.2.1, .int .i64 (insertL S.T S.l on sp xs attrs).2.2.2])) (U' := ⟨(insertL S.T S.l on sp xs attrs).1, (insertL S.T S.l on sp xs attrs).2.1, S.ent⟩) (un' := on) (fun ex _ h' => dInsert_ld h' hl sp xs attrs na aa ac HNA.out hc hlen (HAt.out.below hu.below)))
  clear hc hlen hat hl hT1 HAt
  generalize insertL S.T S.l on sp xs attrs = q at *
  obtain ⟨T2, l2, n2, er⟩ := q
  simp only at HMn HN1 HP HQ
  obtain ⟨y0, y1, y2, y3⟩ := HW1.out.cells
  go_wp2_with fail
  have g2 : w1.drew.cell? ⟨xb, 2, none⟩ = some (.pointer (some ⟨lb, 0, none⟩)) := y2
  have gs : w1.drew.cell? ⟨w.heap.size, 2, none⟩ = some (.string xs) := r2
  have ga : w1.drew.cell? ⟨w.heap.size, 4, none⟩ = some (.slice aa na ac) := r4
  have E1 := Lib.hid (HD1.out.world ((Below.refl _ w1).drew))
  have W1d := Lib.hid (HW1.out.below ((Below.refl _ w1).drew))
  have gp : w1.drew.cell? ⟨w.heap.size, 3, none⟩ = some (.bool xp) := r3
  go_region_held3 (fun u => u.cell? ⟨xb, 2, none⟩ = some (.pointer (some ⟨lb, 0, none⟩)) ∧ u.cell? ⟨w.heap.size, 2, none⟩ = some (.string xs) ∧ u.cell? ⟨w.heap.size, 4, none⟩ = some (.slice aa na ac))
    (first | exact ⟨g2, gs, ga⟩ | exact ⟨u2, us, ua⟩)
    (first | (go_at_call 16; refine (HP.out _ E1.out).mono ?_; rintro e w3 ⟨rfl, h3, k3⟩; have u2 := own_cell k3 HLX.out g2; have us := own_cell k3 HL1.out gs; have ua := own_cell k3 HL1.out ga; have up := own_cell k3 HL1.out gp; have E2 := Lib.hid h3; have W2 := Lib.hid (W1d.out.kept HLX.out k3); have K2 := Lib.hid k3; clear h3 k3))
  all_goals
    obtain ⟨z0, z1, z2, z3⟩ := W2.out.cells
    go_wp2_with fail
    have p3 : w3.drew.cell? ⟨xb, 3, none⟩ = some (.pointer (some ⟨kb, 0, none⟩)) := z3
    have ps : w3.drew.cell? ⟨w.heap.size, 2, none⟩ = some (.string xs) := us
    have pa : w3.drew.cell? ⟨w.heap.size, 4, none⟩ = some (.slice aa na ac) := ua
    have pp : w3.drew.cell? ⟨w.heap.size, 3, none⟩ = some (.bool xp) := up
    have E2d := Lib.hid (E2.out.world ((Below.refl _ w3).drew))
    have W2d := Lib.hid (W2.out.below ((Below.refl _ w3).drew))
    go_region_held3 (fun u => u.cell? ⟨xb, 3, none⟩ = some (.pointer (some ⟨kb, 0, none⟩)) ∧ u.cell? ⟨w.heap.size, 2, none⟩ = some (.string xs) ∧ u.cell? ⟨w.heap.size, 4, none⟩ = some (.slice aa na ac))
      (first | exact ⟨p3, ps, pa⟩ | exact ⟨v3, vs, va⟩)
      (first | (go_at_call 56; refine (HQ.out _ E2d.out).mono ?_; rintro e w5 ⟨rfl, h5, k5⟩; have v3 := own_cell k5 HLX.out p3; have vs := own_cell k5 HL1.out ps; have va := own_cell k5 HL1.out pa; have vp := own_cell k5 HL1.out pp; have E3 := Lib.hid h5; have W3 := Lib.hid (W2d.out.kept HLX.out k5); have K3 := Lib.hid k5; clear h5 k5))
    all_goals
      have HK5 := Lib.hid (HK1.out.trans (keepsw (((Keeps.refl (Own w0 L1) w1).drew.trans K2.out).trans ((Keeps.refl (Own w0 L1) w3).drew.trans K3.out)) HLL.out))
      clear u2 us ua up p3 ps pa pp g2 gs ga gp r0 r1 r2 r3 r4 y0 y1 y2 y3 z0 z1 z2 z3
      obtain ⟨x0, x1, x2, x3⟩ := W3.out.cells
      cases xp
      · go_wp2_with fail
        go_ret
        exact ⟨_, rfl, E3.out.less HLL.out, HN1.out, HK5.out⟩
      · by_cases her : er = 0
        · subst her
          obtain ⟨hn1, hn2⟩ := HMn.out rfl
          have hne := (HI.out.fresh hn1).2
          have HN2 : Hid (Nxt S ⟨T2, l2, pushF T2 S.ent n2⟩) := Lib.hid ⟨HN1.out.fi.epush hn2 hne, HN1.out.mor, by have := pushF_len T2 S.ent n2; show (pushF T2 S.ent n2).length ≤ _; omega, HN1.out.l, HN1.out.lm⟩
          have HEL := Lib.hid hn2
          clear hn1 hn2 hne
          go_wp2_with fail
          refine (E3.out.callP (S' := ⟨T2, l2, pushF T2 S.ent n2⟩) (on' := on) (fun ex _ h' => Push_li h' hle n2)).mono ?_
          rintro e w7 ⟨rfl, h7, k7⟩
          have HD7 := Lib.hid h7
          have HK7 := Lib.hid (HK5.out.trans (keepsw k7 HLL.out))
          obtain ⟨t0, t1, t2, t3⟩ := (W3.out.kept HLX.out k7).cells
          clear h7 k7 x0 x1 x2 x3
          go_wp2_with fail
          refine (HD7.out.callD (U' := ⟨T2, l2, pushF T2 S.ent n2⟩) (un' := on) (fun ex _ h' => dPush_ld h' hle n2 HN1.out.fi.hand HEL.out)).mono ?_
          rintro e w8 ⟨rfl, h8, k8⟩
          have HD8 := Lib.hid h8
          have HK8 := Lib.hid (HK7.out.trans (keepsw k8 HLL.out))
          clear h8 k8
          go_wp2_with fail
          go_ret
          exact ⟨_, rfl, HD8.out.less HLL.out, HN2.out, HK8.out⟩
        · have her' : (er == 0) = false := by simpa using her
          clear her
          go_wp2_with fail
          go_ret
          exact ⟨_, rfl, E3.out.less HLL.out, HN1.out, HK5.out⟩
end
end Go.Proofs.YtclflmjpdglgiaaGreat

/-
  Contracts: law 15's does at the other kinds; does_any: one step on both lists: they answer alike. No conditions beyond those that each lemma types.
-/
namespace Go.Proofs.YtclflmjpdglgiaaGreat
open Go.RowKit Mem

section
variable {w0 w w' : World} {B C B' C' tb sb lb rb qb kb xb : Nat} {ex : Nat → Prop} {T : TreeD} {l ent : List Int} {S U U' : AS} {on un un' : Bool} {L : Nat → Prop}
/-- the document's 'On' is written -/
theorem LD.seton (h : LD w0 B rb qb kb ex T l ent on w) (b : Bool) : w.cell? ⟨kb, 3, none⟩ = some (.bool on) ∧ w.frozen? ⟨kb, 3, none⟩ = false ∧ LD w0 B rb qb kb ex T l ent b (w.setCell ⟨kb, 3, none⟩ (.bool b)) ∧ Keeps (Own w0 ex) w (w.setCell ⟨kb, 3, none⟩ (.bool b)) := by
  obtain ⟨ge, h1, h2, h3, h4⟩ := h
  obtain ⟨a, c, c0, c1, c2, c3, hA, ho, f2, f3, hrow, hn, hne⟩ := h1.cells
  have hk : Keeps (SB kb ge) w (w.setCell ⟨kb, 3, none⟩ (.bool b)) := (Keeps.refl _ _).set (p := ⟨kb, 3, none⟩) (.inl (.inl rfl)) _
  have hl : LdO (w.setCell ⟨kb, 3, none⟩ (.bool b)) kb rb qb ge ent b := ⟨.slice a ent.length c, Lib.heap_setCell_same (i := 3) hrow _, ho.kept (fun k hk => heap_setCell_other _ _ _ _ (fun e => hne (hk.trans (congrArg some e)))), hne⟩
  exact ⟨c3, f3, LD.lst_step h2 h3 h4 hl hk (fun k hk => .inl hk)⟩
theorem LD.kb_not (h : LD w0 B rb qb kb ex T l ent on w) : ¬ ex kb := by
  obtain ⟨ge, _, _, h3, _⟩ := h
  exact (h3 kb (.inl rfl)).2
theorem DL.kb_not (h : DL w0 B C tb sb lb rb qb kb S on U un L w) : ¬ L kb := fun hL => by
  obtain ⟨ex, hl, he⟩ := h.ld
  exact hl.kb_not (he kb hL)
/-- the document's side is stepped on, with no call -/
theorem DL.stepD (h : DL w0 B C tb sb lb rb qb kb S on U un L w) (hc : ∀ ex, (∀ k, L k → ex k) → LD w0 C rb qb kb ex U.T U.l U.ent un w → LD w0 C' rb qb kb ex U'.T U'.l U'.ent un' w' ∧ Keeps (Own w0 ex) w w') :
    DL w0 B C' tb sb lb rb qb kb S on U' un' L w' ∧ Keeps (Own w0 L) w w' := by
  obtain ⟨PB, h1, h2, h3, h4⟩ := h
  have hs0 := h4.below.size
  obtain ⟨hb, hk⟩ := hc _ (fun k hk => ⟨(h2 k hk).1, (h2 k hk).2, fun hP => (h1 k hP).1 hk⟩) h4
  have hsz := hk.size
  refine ⟨⟨fun k => PB k ∨ (w.heap.size ≤ k ∧ k < w'.heap.size), ?_, fun k hk => ⟨(h2 k hk).1, Nat.lt_of_lt_of_le (h2 k hk).2 hsz⟩, ?_, ?_⟩, hk.mono fun k hlt hx => ⟨hx.1, fun hL => hx.2 ⟨hx.1, hlt, fun hP => (h1 k hP).1 hL⟩⟩⟩
  · rintro k (hx | hx)
    · exact ⟨(h1 k hx).1, Nat.lt_of_lt_of_le (h1 k hx).2.1 hsz, (h1 k hx).2.2⟩
    · exact ⟨fun hL => by have := (h2 k hL).2; omega, hx.2, by omega⟩
  · refine (li_side w0 B tb sb lb S.T S.l S.ent on).foreign h3 hk (fun k hlt hx => ⟨?_, hx.1⟩) ?_
    · refine .inl ?_
      exact Classical.byContradiction fun hn => hx.2 ⟨hx.1, hlt, hn⟩
    · rintro k ((hx | hx) | hx)
      · exact ⟨.inl (.inl hx), Nat.lt_of_lt_of_le (h1 k hx).2.1 hsz⟩
      · exact ⟨.inr hx.1, hx.2⟩
      · exact ⟨.inl (.inr hx), Nat.lt_of_lt_of_le (h2 k hx).2 hsz⟩
  · refine (ld_side w0 C' rb qb kb U'.T U'.l U'.ent un').foreign hb (Keeps.refl (fun _ => False) w') (fun _ _ h => h.elim) fun k hx => ⟨.inl ⟨hx.1, ?_, fun hP => hx.2.2 (.inl hP)⟩, hx.2.1⟩
    rcases Nat.lt_or_ge k w.heap.size with h | h
    · exact h
    · exact absurd (.inr ⟨h, hx.2.1⟩) hx.2.2
theorem keepF2 {u : World} {a b i j : Nat} {v x : Value} (hne : a ≠ b) (h : u.cell? ⟨a, i, none⟩ = some v) : (u.setCell ⟨b, j, none⟩ x).drew.cell? ⟨a, i, none⟩ = some v := keepSet hne h
theorem atF_one {u : World} {F : Nat → Prop} {x : ByteArray} {t : TypeId} (hF : ¬ F u.heap.size) : AtF F (u.alloc (.cells #[.string x] t)) (some ⟨u.heap.size, 0, none⟩) (strsV [x]) :=
  AtF.of_new (at_alloc rfl rfl) fun b o s hb => by cases hb; exact hF

set_option maxRecDepth 100000 in
set_option maxHeartbeats 8000000 in
theorem does_0 (h : DL w0 B C tb sb lb rb qb kb S on S on L w) (hx : WX xb tb sb lb kb w) (hLx : L xb) (hI : FI S.T S.l S.ent) (xn : Int) (xs : ByteArray) (xp : Bool) (attrs : List Pair) (aa : Option Addr) (na ac : Nat) (kd : Int) (hkd : kd = 0) (hna : na = attrs.length) (hc : aa = none → ac = 0) (hlen : attrs.length ≤ 1048576) (hat : At w0 aa (pairsV attrs)) (hl : S.l.length < 1000000) (hle : S.ent.length < 1000000) (hT1 : 1 ≤ S.T.nodes.length) :
    Calls Tryz.prog 6 #[.pointer (some ⟨xb, 0, none⟩), .agg #[.int .i64 kd, .int .i64 xn, .string xs, .bool xp, .slice aa na ac]] w fun e w' =>
      ∃ S', e = .returned (.bool true) ∧ DL w0 B C tb sb lb rb qb kb S' on S' on L w' ∧ Nxt S S' ∧ Keeps (Own w0 L) w w' := by
  subst hkd
  have HNA := Lib.hid hna
  clear hna
  have hbx := (Below.refl w.heap.size w).alloc (Nat.le_refl _) (.cells #[.int .i64 0, .int .i64 xn, .string xs, .bool xp, .slice aa na ac] 29)
  have hd1 := h.lay hbx
  have hk1 : Keeps (Own w0 L) w (w.alloc (.cells #[.int .i64 0, .int .i64 xn, .string xs, .bool xp, .slice aa na ac] 29)) := Keeps.ofBelow hbx
  have hB := heap_alloc_new w (.cells #[.int .i64 0, .int .i64 xn, .string xs, .bool xp, .slice aa na ac] 29)
  have hL1 : (fun k => L k ∨ (w.heap.size ≤ k ∧ k < (w.alloc (.cells #[.int .i64 0, .int .i64 xn, .string xs, .bool xp, .slice aa na ac] 29)).heap.size)) w.heap.size := .inr ⟨Nat.le_refl _, by simp⟩
  have hw1 := hx.below hbx
  have HI := Lib.hid hI
  go_enter Tryz.func6, Tryz.ntmps6
  go_wp2_with fail
  generalize w.alloc (.cells #[.int .i64 0, .int .i64 xn, .string xs, .bool xp, .slice aa na ac] 29) = w1 at *
  have r0 := cell_of_row _ _ 0 _ _ _ hB
  have r1 := cell_of_row _ _ 1 _ _ _ hB
  have r2 := cell_of_row _ _ 2 _ _ _ hB
  have r3 := cell_of_row _ _ 3 _ _ _ hB
  have r4 := cell_of_row _ _ 4 _ _ _ hB
  obtain ⟨L1, hL1e⟩ : ∃ L1 : Nat → Prop, L1 = fun k => L k ∨ (w.heap.size ≤ k ∧ k < w1.heap.size) := ⟨_, rfl⟩
  rw [← hL1e] at hd1
  have HLL := Lib.hid (show ∀ k, L k → L1 k by rw [hL1e]; exact fun k hk => .inl hk)
  have HL1 := Lib.hid (show L1 w.heap.size by rw [hL1e]; exact hL1)
  have HLX := Lib.hid (HLL.out xb hLx)
  have HK1 := Lib.hid hk1
  have HD1 := Lib.hid hd1
  have HW1 := Lib.hid hw1
  clear h hbx hd1 hk1 hB hL1 hL1e hx hw1 hLx hI
  refine (insertx_any HD1.out HW1.out HLX.out HI.out xn xs xp attrs aa na ac 0 HNA.out hc hlen hat hl hle hT1).mono ?_
  rintro e w3 ⟨S', rfl, h3, hn, k3⟩
  have HD3 := Lib.hid h3
  have HN := Lib.hid hn
  have HK3 := Lib.hid (HK1.out.trans (keepsw k3 HLL.out))
  clear h3 hn k3
  go_wp2_with fail
  go_ret
  exact ⟨S', rfl, HD3.out.less HLL.out, HN.out, HK3.out⟩

set_option maxRecDepth 100000 in
set_option maxHeartbeats 8000000 in
theorem does_no (h : DL w0 B C tb sb lb rb qb kb S on S on L w) (hx : WX xb tb sb lb kb w) (hLx : L xb) (hI : FI S.T S.l S.ent) (xn : Int) (hxn : -9223372036854775808 ≤ xn ∧ xn ≤ 9223372036854775807) (xs : ByteArray) (xp : Bool) (aa : Option Addr) (na ac : Nat) (kd : Int) (hle : S.ent.length < 1000000) (hk0 : (kd == 0) = false) (hk1' : (kd == 1) = false) (hk2 : (kd == 2) = false) (hk3 : (kd == 3) = false) (hk4 : (kd == 4) = false) (hk5 : (kd == 5) = false) (hk6 : (kd == 6) = false) (hk7 : (kd == 7) = false) (hk11 : (kd == 11) = false) (hk13 : (kd == 13) = false) :
    Calls Tryz.prog 6 #[.pointer (some ⟨xb, 0, none⟩), .agg #[.int .i64 kd, .int .i64 xn, .string xs, .bool xp, .slice aa na ac]] w fun e w' =>
      ∃ S', e = .returned (.bool true) ∧ DL w0 B C tb sb lb rb qb kb S' on S' on L w' ∧ Nxt S S' ∧ Keeps (Own w0 L) w w' := by
  have hbx := (Below.refl w.heap.size w).alloc (Nat.le_refl _) (.cells #[.int .i64 kd, .int .i64 xn, .string xs, .bool xp, .slice aa na ac] 29)
  have hd1 := h.lay hbx
  have hk1 : Keeps (Own w0 L) w (w.alloc (.cells #[.int .i64 kd, .int .i64 xn, .string xs, .bool xp, .slice aa na ac] 29)) := Keeps.ofBelow hbx
  have hB := heap_alloc_new w (.cells #[.int .i64 kd, .int .i64 xn, .string xs, .bool xp, .slice aa na ac] 29)
  have hL1 : (fun k => L k ∨ (w.heap.size ≤ k ∧ k < (w.alloc (.cells #[.int .i64 kd, .int .i64 xn, .string xs, .bool xp, .slice aa na ac] 29)).heap.size)) w.heap.size := .inr ⟨Nat.le_refl _, by simp⟩
  have hw1 := hx.below hbx
  have HI := Lib.hid hI
  have r0 := cell_of_row _ _ 0 _ _ _ hB
  go_enter Tryz.func6, Tryz.ntmps6
  go_wp2_with fail
  clear r0
  generalize w.alloc (.cells #[.int .i64 kd, .int .i64 xn, .string xs, .bool xp, .slice aa na ac] 29) = w1 at *
  have r0 := cell_of_row _ _ 0 _ _ _ hB
  have r1 := cell_of_row _ _ 1 _ _ _ hB
  have r2 := cell_of_row _ _ 2 _ _ _ hB
  have r3 := cell_of_row _ _ 3 _ _ _ hB
  have r4 := cell_of_row _ _ 4 _ _ _ hB
  obtain ⟨L1, hL1e⟩ : ∃ L1 : Nat → Prop, L1 = fun k => L k ∨ (w.heap.size ≤ k ∧ k < w1.heap.size) := ⟨_, rfl⟩
  rw [← hL1e] at hd1
  have HLL := Lib.hid (show ∀ k, L k → L1 k by rw [hL1e]; exact fun k hk => .inl hk)
  have HL1 := Lib.hid (show L1 w.heap.size by rw [hL1e]; exact hL1)
  have HLX := Lib.hid (HLL.out xb hLx)
  have HK1 := Lib.hid hk1
  have HD1 := Lib.hid hd1
  have HW1 := Lib.hid hw1
  clear h hbx hd1 hk1 hB hL1 hL1e hx hw1 hLx hI
  have hel : Calls Tryz.prog 38 #[.pointer (some ⟨xb, 0, none⟩), .agg #[.int .i64 kd, .int .i64 xn, .string xs, .bool xp, .slice aa na ac]] w1 fun e w' =>
      ∃ S', e = .returned (.bool true) ∧ DL w0 B C tb sb lb rb qb kb S' on S' on L1 w' ∧ Nxt S S' ∧ Keeps (Own w0 L1) w1 w' := by
    by_cases h8 : kd = 8
    · exact elem_8 HD1.out HW1.out HLX.out HI.out hle xn hxn xs xp aa na ac kd h8
    by_cases h9 : kd = 9
    · exact elem_9 HD1.out HW1.out HLX.out HI.out xn hxn xs xp aa na ac kd h9
    by_cases h10 : kd = 10
    · exact elem_10 HD1.out HW1.out HLX.out HI.out xn hxn xs xp aa na ac kd h10
    by_cases h12 : kd = 12
    · exact elem_12 HD1.out HW1.out HLX.out HI.out xn hxn xs xp aa na ac kd h12
    · exact elem_no HD1.out HW1.out HLX.out HI.out xn hxn xs xp aa na ac kd (by simpa using h8) (by simpa using h9) (by simpa using h10) (by simpa using h12)
  refine hel.mono ?_
  rintro e w3 ⟨S', rfl, h3, hn, k3⟩
  have HD3 := Lib.hid h3
  have HN := Lib.hid hn
  have HK3 := Lib.hid (HK1.out.trans (keepsw k3 HLL.out))
  clear h3 hn k3 hel
  go_wp2_with fail
  go_ret
  exact ⟨S', rfl, HD3.out.less HLL.out, HN.out, HK3.out⟩

set_option maxRecDepth 100000 in
set_option maxHeartbeats 8000000 in
theorem does_7 (h : DL w0 B C tb sb lb rb qb kb S on S on L w) (hx : WX xb tb sb lb kb w) (hLx : L xb) (hI : FI S.T S.l S.ent) (xn : Int) (xs : ByteArray) (xp : Bool) (aa : Option Addr) (na ac : Nat) (kd : Int) (hkd : kd = 7) :
    Calls Tryz.prog 6 #[.pointer (some ⟨xb, 0, none⟩), .agg #[.int .i64 kd, .int .i64 xn, .string xs, .bool xp, .slice aa na ac]] w fun e w' =>
      ∃ S', e = .returned (.bool true) ∧ DL w0 B C tb sb lb rb qb kb S' xp S' xp L w' ∧ Nxt S S' ∧ Keeps (Own w0 L) w w' := by
  subst hkd
  have hbx := (Below.refl w.heap.size w).alloc (Nat.le_refl _) (.cells #[.int .i64 7, .int .i64 xn, .string xs, .bool xp, .slice aa na ac] 29)
  have hd1 := h.lay hbx
  have hk1 : Keeps (Own w0 L) w (w.alloc (.cells #[.int .i64 7, .int .i64 xn, .string xs, .bool xp, .slice aa na ac] 29)) := Keeps.ofBelow hbx
  have hB := heap_alloc_new w (.cells #[.int .i64 7, .int .i64 xn, .string xs, .bool xp, .slice aa na ac] 29)
  have hL1 : (fun k => L k ∨ (w.heap.size ≤ k ∧ k < (w.alloc (.cells #[.int .i64 7, .int .i64 xn, .string xs, .bool xp, .slice aa na ac] 29)).heap.size)) w.heap.size := .inr ⟨Nat.le_refl _, by simp⟩
  have hw1 := hx.below hbx
  have HI := Lib.hid hI
  go_enter Tryz.func6, Tryz.ntmps6
  go_wp2_with fail
  generalize w.alloc (.cells #[.int .i64 7, .int .i64 xn, .string xs, .bool xp, .slice aa na ac] 29) = w1 at *
  have r0 := cell_of_row _ _ 0 _ _ _ hB
  have r1 := cell_of_row _ _ 1 _ _ _ hB
  have r2 := cell_of_row _ _ 2 _ _ _ hB
  have r3 := cell_of_row _ _ 3 _ _ _ hB
  have r4 := cell_of_row _ _ 4 _ _ _ hB
  obtain ⟨L1, hL1e⟩ : ∃ L1 : Nat → Prop, L1 = fun k => L k ∨ (w.heap.size ≤ k ∧ k < w1.heap.size) := ⟨_, rfl⟩
  rw [← hL1e] at hd1
  have HLL := Lib.hid (show ∀ k, L k → L1 k by rw [hL1e]; exact fun k hk => .inl hk)
  have HL1 := Lib.hid (show L1 w.heap.size by rw [hL1e]; exact hL1)
  have HLX := Lib.hid (HLL.out xb hLx)
  have HK1 := Lib.hid hk1
  have HD1 := Lib.hid hd1
  have HW1 := Lib.hid hw1
  clear h hbx hd1 hk1 hB hL1 hL1e hx hw1 hLx hI
  obtain ⟨y0, y1, y2, y3⟩ := HW1.out.cells
  have HP : Hid (∀ {U : AS} {un : Bool} u, DL w0 B C tb sb lb rb qb kb S on U un L1 u → Calls Tryz.prog 33 #[.pointer (some ⟨lb, 0, none⟩), .bool xp] u fun e w' => e = .returned (.tuple #[]) ∧ DL w0 B C tb sb lb rb qb kb S xp U un L1 w' ∧ Keeps (Own w0 L1) u w') := Lib.hid (fun u hu => hu.callP (Q := fun e _ => e = .returned (.tuple #[])) (S' := S) (on' := xp) (fun ex _ h' => Foster_li h' xp))
  go_wp2_with fail
  have g2 : w1.drew.cell? ⟨xb, 2, none⟩ = some (.pointer (some ⟨lb, 0, none⟩)) := y2
  have gp : w1.drew.cell? ⟨w.heap.size, 3, none⟩ = some (.bool xp) := r3
  have E1 := Lib.hid (HD1.out.world ((Below.refl _ w1).drew))
  have W1d := Lib.hid (HW1.out.below ((Below.refl _ w1).drew))
  go_region_held3 (fun u => u.cell? ⟨xb, 2, none⟩ = some (.pointer (some ⟨lb, 0, none⟩)) ∧ u.cell? ⟨w.heap.size, 3, none⟩ = some (.bool xp))
    (first | exact ⟨g2, gp⟩ | exact ⟨u2, up⟩)
    (first | (go_at_call 33; refine (HP.out _ E1.out).mono ?_; rintro e w3 ⟨rfl, h3, k3⟩; have u2 := own_cell k3 HLX.out g2; have up := own_cell k3 HL1.out gp; have E2 := Lib.hid h3; have W2 := Lib.hid (W1d.out.kept HLX.out k3); have K2 := Lib.hid k3; clear h3 k3))
  all_goals
    obtain ⟨z0, z1, z2, z3⟩ := W2.out.cells
    go_wp2_with fail
    have p3 : w3.drew.cell? ⟨xb, 3, none⟩ = some (.pointer (some ⟨kb, 0, none⟩)) := z3
    have pp : w3.drew.cell? ⟨w.heap.size, 3, none⟩ = some (.bool xp) := up
    have E2d := Lib.hid (E2.out.world ((Below.refl _ w3).drew))
    have hq : w3.cell? ⟨kb, 3, none⟩ = some (.bool on) ∧ w3.frozen? ⟨kb, 3, none⟩ = false := by
      obtain ⟨ex, hl, _⟩ := E2.out.ld
      exact ⟨(hl.seton xp).1, (hl.seton xp).2.1⟩
    obtain ⟨pk, pf⟩ := hq
    have hst := E2.out.stepD (U' := S) (un' := xp) (w' := w3.setCell ⟨kb, 3, none⟩ (.bool xp)) (fun ex _ h' => (h'.seton xp).2.2)
    have HE3 := Lib.hid hst.1
    have HK3 := Lib.hid hst.2
    have hne1 : xb ≠ kb := fun e => E2.out.kb_not (by rw [← e]; exact HLX.out)
    have hne2 : w.heap.size ≠ kb := fun e => E2.out.kb_not (by rw [← e]; exact HL1.out)
    have HNE1 := Lib.hid hne1
    have HNE2 := Lib.hid hne2
    clear hst hne1 hne2
    go_region_held3 (fun u => u.cell? ⟨xb, 3, none⟩ = some (.pointer (some ⟨kb, 0, none⟩)) ∧ u.cell? ⟨w.heap.size, 3, none⟩ = some (.bool xp))
      (first | exact ⟨p3, pp⟩ | exact ⟨keepF2 HNE1.out z3, keepF2 HNE2.out up⟩ | exact ⟨keepSet HNE1.out p3, keepSet HNE2.out pp⟩)
      (fail)
    all_goals
      have hbd := (Below.refl (w3.setCell ⟨kb, 3, none⟩ (.bool xp)).heap.size (w3.setCell ⟨kb, 3, none⟩ (.bool xp))).drew
      have HE4 := Lib.hid (HE3.out.world hbd)
      have HK4 := Lib.hid (HK1.out.trans (keepsw ((((Keeps.refl (Own w0 L1) w1).drew.trans K2.out).trans HK3.out).trans (Keeps.ofBelow hbd)) HLL.out))
      clear hbd
      go_wp2_with fail
      go_ret
      exact ⟨S, rfl, HE4.out.less HLL.out, Nxt.same HI.out, HK4.out⟩

set_option maxRecDepth 100000 in
set_option maxHeartbeats 8000000 in
theorem does_13 (h : DL w0 B C tb sb lb rb qb kb S on S on L w) (hx : WX xb tb sb lb kb w) (hLx : L xb) (hI : FI S.T S.l S.ent) (xn : Int) (xs : ByteArray) (xp : Bool) (aa : Option Addr) (na ac : Nat) (kd : Int) (hkd : kd = 13) :
    Calls Tryz.prog 6 #[.pointer (some ⟨xb, 0, none⟩), .agg #[.int .i64 kd, .int .i64 xn, .string xs, .bool xp, .slice aa na ac]] w fun e w' =>
      ∃ S', e = .returned (.bool true) ∧ DL w0 B C tb sb lb rb qb kb S' on S' on L w' ∧ Nxt S S' ∧ Keeps (Own w0 L) w w' := by
  subst hkd
  have hbx := (Below.refl w.heap.size w).alloc (Nat.le_refl _) (.cells #[.int .i64 13, .int .i64 xn, .string xs, .bool xp, .slice aa na ac] 29)
  have hd1 := h.lay hbx
  have hk1 : Keeps (Own w0 L) w (w.alloc (.cells #[.int .i64 13, .int .i64 xn, .string xs, .bool xp, .slice aa na ac] 29)) := Keeps.ofBelow hbx
  have hB := heap_alloc_new w (.cells #[.int .i64 13, .int .i64 xn, .string xs, .bool xp, .slice aa na ac] 29)
  have hL1 : (fun k => L k ∨ (w.heap.size ≤ k ∧ k < (w.alloc (.cells #[.int .i64 13, .int .i64 xn, .string xs, .bool xp, .slice aa na ac] 29)).heap.size)) w.heap.size := .inr ⟨Nat.le_refl _, by simp⟩
  have hw1 := hx.below hbx
  have HI := Lib.hid hI
  go_enter Tryz.func6, Tryz.ntmps6
  go_wp2_with fail
  generalize w.alloc (.cells #[.int .i64 13, .int .i64 xn, .string xs, .bool xp, .slice aa na ac] 29) = w1 at *
  have r0 := cell_of_row _ _ 0 _ _ _ hB
  have r1 := cell_of_row _ _ 1 _ _ _ hB
  have r2 := cell_of_row _ _ 2 _ _ _ hB
  have r3 := cell_of_row _ _ 3 _ _ _ hB
  have r4 := cell_of_row _ _ 4 _ _ _ hB
  obtain ⟨L1, hL1e⟩ : ∃ L1 : Nat → Prop, L1 = fun k => L k ∨ (w.heap.size ≤ k ∧ k < w1.heap.size) := ⟨_, rfl⟩
  rw [← hL1e] at hd1
  have HLL := Lib.hid (show ∀ k, L k → L1 k by rw [hL1e]; exact fun k hk => .inl hk)
  have HL1 := Lib.hid (show L1 w.heap.size by rw [hL1e]; exact hL1)
  have HLX := Lib.hid (HLL.out xb hLx)
  have HK1 := Lib.hid hk1
  have HD1 := Lib.hid hd1
  have HW1 := Lib.hid hw1
  clear h hbx hd1 hk1 hB hL1 hL1e hx hw1 hLx hI
  obtain ⟨y0, y1, y2, y3⟩ := HW1.out.cells
  have hus : ((untilF S.T [xs] S.l.reverse).reverse).Sublist S.l := by
    have h1 : ∀ r : List Int, (untilF S.T [xs] r).Sublist r := fun r => by
      induction r with
      | nil => exact List.Sublist.refl _
      | cons x r ih =>
        rw [untilF]
        split
        · exact List.sublist_cons_self _ _
        · exact ih.trans (List.sublist_cons_self _ _)
    have h2 := (h1 S.l.reverse).reverse
    rwa [List.reverse_reverse] at h2
  have HN : Hid (Nxt S ⟨S.T, (untilF S.T [xs] S.l.reverse).reverse, S.ent⟩) := Lib.hid ⟨HI.out.sub hus (List.Sublist.refl _), Mor.refl _, by show S.ent.length ≤ _; omega, by have := hus.length_le; show ((untilF S.T [xs] S.l.reverse).reverse).length ≤ _; omega, fun _ h => h⟩
  clear hus
  have HP : Hid (∀ {L2 : Nat → Prop} {U : AS} {un : Bool} (v : World), DL w0 B C tb sb lb rb qb kb S on U un L2 (v.alloc (.cells #[.string xs] 9)) → L2 v.heap.size → Calls Tryz.prog 36 #[.pointer (some ⟨sb, 0, none⟩), .slice (some ⟨v.heap.size, 0, none⟩) 1 1] (v.alloc (.cells #[.string xs] 9)) fun e w' => e = .returned (.tuple #[]) ∧ DL w0 B C tb sb lb rb qb kb ⟨S.T, (untilF S.T [xs] S.l.reverse).reverse, S.ent⟩ on U un L2 w' ∧ Keeps (Own w0 L2) (v.alloc (.cells #[.string xs] 9)) w') := Lib.hid (fun v hu hv => hu.callP (Q := fun e _ => e = .returned (.tuple #[])) (S' := ⟨S.T, (untilF S.T [xs] S.l.reverse).reverse, S.ent⟩) (on' := on) (fun ex he h' => Until_li h' [xs] (some ⟨v.heap.size, 0, none⟩) 1 (atF_one (fun hx => hx.2 (he _ hv))) (by simp)))
  have HQ : Hid (∀ {L2 : Nat → Prop} {U : AS} {un : Bool} (v : World), DL w0 B C tb sb lb rb qb kb U un S on L2 (v.alloc (.cells #[.string xs] 9)) → L2 v.heap.size → Calls Tryz.prog 37 #[.pointer (some ⟨qb, 0, none⟩), .slice (some ⟨v.heap.size, 0, none⟩) 1 1] (v.alloc (.cells #[.string xs] 9)) fun e w' => e = .returned (.tuple #[]) ∧ DL w0 B C tb sb lb rb qb kb U un ⟨S.T, (untilF S.T [xs] S.l.reverse).reverse, S.ent⟩ on L2 w' ∧ Keeps (Own w0 L2) (v.alloc (.cells #[.string xs] 9)) w') := Lib.hid (fun v hu hv => hu.callD (Q := fun e _ => e = .returned (.tuple #[])) (U' := ⟨S.T, (untilF S.T [xs] S.l.reverse).reverse, S.ent⟩) (un' := on) (fun ex he h' => dUntil_ld h' [xs] (some ⟨v.heap.size, 0, none⟩) 1 (atF_one (fun hx => hx.2 (he _ hv))) (by simp)))
  generalize (untilF S.T [xs] S.l.reverse).reverse = l2 at *
  go_wp2_with fail
  have g1 : w1.drew.cell? ⟨xb, 1, none⟩ = some (.pointer (some ⟨sb, 0, none⟩)) := y1
  have gs : w1.drew.cell? ⟨w.heap.size, 2, none⟩ = some (.string xs) := r2
  have hba := (Below.refl w1.drew.heap.size w1.drew).alloc (Nat.le_refl _) (.cells #[.string xs] 9)
  have W1a := Lib.hid ((HW1.out.below ((Below.refl _ w1).drew)).below hba)
  have ga1 := cell_later hba g1
  have gas := cell_later hba gs
  have hE1 := (HD1.out.world ((Below.refl _ w1).drew)).lay hba
  obtain ⟨L2, hL2e⟩ : ∃ L2 : Nat → Prop, L2 = fun k => L1 k ∨ (w1.drew.heap.size ≤ k ∧ k < (w1.drew.alloc (.cells #[.string xs] 9)).heap.size) := ⟨_, rfl⟩
  rw [← hL2e] at hE1
  have HLL2 := Lib.hid (show ∀ k, L1 k → L2 k by rw [hL2e]; exact fun k hk => .inl hk)
  have HL2n := Lib.hid (show L2 w1.drew.heap.size by rw [hL2e]; exact .inr ⟨Nat.le_refl _, by simp⟩)
  have E1 := Lib.hid hE1
  have HKa := Lib.hid ((Keeps.refl (Own w0 L1) w1).drew.trans (Keeps.ofBelow hba))
  clear hba hE1 hL2e
  go_region_held3 (fun u => u.cell? ⟨xb, 1, none⟩ = some (.pointer (some ⟨sb, 0, none⟩)) ∧ u.cell? ⟨w.heap.size, 2, none⟩ = some (.string xs))
    (first | exact ⟨g1, gs⟩ | exact ⟨ga1, gas⟩ | exact ⟨u1, us⟩)
    (first | (go_at_call 36; refine (HP.out _ E1.out HL2n.out).mono ?_; rintro e w3 ⟨rfl, h3, k3⟩; have u1 := own_cell k3 (HLL2.out _ HLX.out) ga1; have us := own_cell k3 (HLL2.out _ HL1.out) gas; have E2 := Lib.hid (h3.less HLL2.out); have W2 := Lib.hid (W1a.out.kept (HLL2.out _ HLX.out) k3); have K2 := Lib.hid (HKa.out.trans (keepsw k3 HLL2.out)); clear h3 k3))
  all_goals
    obtain ⟨z0, z1, z2, z3⟩ := W2.out.cells
    obtain ⟨c0, c1⟩ := E2.out.cells
    go_wp2_with fail
    have p3 : w3.drew.cell? ⟨xb, 3, none⟩ = some (.pointer (some ⟨kb, 0, none⟩)) := z3
    have pc : w3.drew.cell? ⟨kb, 1, none⟩ = some (.pointer (some ⟨qb, 0, none⟩)) := c1
    have ps : w3.drew.cell? ⟨w.heap.size, 2, none⟩ = some (.string xs) := us
    have hba := (Below.refl w3.drew.heap.size w3.drew).alloc (Nat.le_refl _) (.cells #[.string xs] 9)
    have pa3 := cell_later hba p3
    have pac := cell_later hba pc
    have pas := cell_later hba ps
    have hE2 := (E2.out.world ((Below.refl _ w3).drew)).lay hba
    obtain ⟨L3, hL3e⟩ : ∃ L3 : Nat → Prop, L3 = fun k => L1 k ∨ (w3.drew.heap.size ≤ k ∧ k < (w3.drew.alloc (.cells #[.string xs] 9)).heap.size) := ⟨_, rfl⟩
    rw [← hL3e] at hE2
    have HLL3 := Lib.hid (show ∀ k, L1 k → L3 k by rw [hL3e]; exact fun k hk => .inl hk)
    have HL3n := Lib.hid (show L3 w3.drew.heap.size by rw [hL3e]; exact .inr ⟨Nat.le_refl _, by simp⟩)
    have E2a := Lib.hid hE2
    have HKb := Lib.hid ((Keeps.refl (Own w0 L1) w3).drew.trans (Keeps.ofBelow hba))
    clear hba hE2 hL3e
    go_region_held3 (fun u => u.cell? ⟨xb, 3, none⟩ = some (.pointer (some ⟨kb, 0, none⟩)) ∧ u.cell? ⟨kb, 1, none⟩ = some (.pointer (some ⟨qb, 0, none⟩)) ∧ u.cell? ⟨w.heap.size, 2, none⟩ = some (.string xs))
      (first | exact ⟨p3, pc, ps⟩ | exact ⟨pa3, pac, pas⟩ | exact ⟨v3, vc, vs⟩)
      (first | (go_at_call 37; refine (HQ.out _ E2a.out HL3n.out).mono ?_; rintro e w5 ⟨rfl, h5, k5⟩; have v3 := own_cell k5 (HLL3.out _ HLX.out) pa3; have vs := own_cell k5 (HLL3.out _ HL1.out) pas; have vc := h5.cells.2; have E3 := Lib.hid (h5.less HLL3.out); have K3 := Lib.hid (HKb.out.trans (keepsw k5 HLL3.out)); clear h5 k5))
    all_goals
      go_wp2_with fail
      go_ret
      exact ⟨_, rfl, E3.out.less HLL.out, HN.out, HK1.out.trans (keepsw (K2.out.trans K3.out) HLL.out)⟩

/-- one step on both lists -/
theorem does_any (h : DL w0 B C tb sb lb rb qb kb S on S on L w) (hx : WX xb tb sb lb kb w) (hLx : L xb) (hI : FI S.T S.l S.ent) (kd xn : Int) (hxn : -9223372036854775808 ≤ xn ∧ xn ≤ 9223372036854775807) (xs : ByteArray) (xp : Bool) (attrs : List Pair) (aa : Option Addr) (na ac : Nat) (hna : na = attrs.length) (hc : aa = none → ac = 0) (hlen : attrs.length ≤ 1048576) (hat : At w0 aa (pairsV attrs)) (hl : S.l.length + S.ent.length + 20 < 1000000) (hT1 : 1 ≤ S.T.nodes.length)
    (hBB : B + xs.size ≤ B') (hMB : B' ≤ 9223372036854775807) (hBC : C + xs.size ≤ C') (hMC : C' ≤ 9223372036854775807) :
    Calls Tryz.prog 6 #[.pointer (some ⟨xb, 0, none⟩), .agg #[.int .i64 kd, .int .i64 xn, .string xs, .bool xp, .slice aa na ac]] w fun e w' =>
      ∃ S' on', e = .returned (.bool true) ∧ DL w0 B' C' tb sb lb rb qb kb S' on' S' on' L w' ∧ Nxt S S' ∧ Keeps (Own w0 L) w w' := by
  have more : ∀ (on' : Bool), Calls Tryz.prog 6 #[.pointer (some ⟨xb, 0, none⟩), .agg #[.int .i64 kd, .int .i64 xn, .string xs, .bool xp, .slice aa na ac]] w (fun e w' =>
      ∃ S', e = .returned (.bool true) ∧ DL w0 B C tb sb lb rb qb kb S' on' S' on' L w' ∧ Nxt S S' ∧ Keeps (Own w0 L) w w') → Calls Tryz.prog 6 #[.pointer (some ⟨xb, 0, none⟩), .agg #[.int .i64 kd, .int .i64 xn, .string xs, .bool xp, .slice aa na ac]] w (fun e w' =>
      ∃ S' on', e = .returned (.bool true) ∧ DL w0 B' C' tb sb lb rb qb kb S' on' S' on' L w' ∧ Nxt S S' ∧ Keeps (Own w0 L) w w') := fun on' hq => hq.mono fun e w' ⟨S', h1, h2, h3, h4⟩ => ⟨S', on', h1, h2.more (by omega) (by omega), h3, h4⟩
  by_cases h0 : kd = 0
  · exact more _ (does_0 h hx hLx hI xn xs xp attrs aa na ac kd h0 hna hc hlen hat (by omega) (by omega) hT1)
  by_cases h1 : kd = 1
  · exact (does_1 h hx hLx hI xn xs xp aa na ac kd h1 hBB hMB hBC hMC).mono fun e w' ⟨S', h1, h2, h3, h4⟩ => ⟨S', on, h1, h2, h3, h4⟩
  by_cases h2 : kd = 2
  · exact more _ (does_2 h hx hLx hI xn xs xp aa na ac kd h2 (by omega) (by omega))
  by_cases h3 : kd = 3
  · exact more _ (does_3 h hx hLx hI xn xs xp aa na ac kd h3 hT1 (by omega))
  by_cases h4 : kd = 4
  · exact more _ (does_4 h hx hLx hI xn xs xp aa na ac kd h4 (by omega))
  by_cases h5 : kd = 5
  · exact more _ (does_5 h hx hLx hI xn xs xp aa na ac kd h5)
  by_cases h6 : kd = 6
  · exact more _ (does_6 h hx hLx hI xn xs xp aa na ac kd h6)
  by_cases h7 : kd = 7
  · exact more _ (does_7 h hx hLx hI xn xs xp aa na ac kd h7)
  by_cases h11 : kd = 11
  · exact more _ (does_11 h hx hLx hI xn xs xp aa na ac kd h11)
  by_cases h13 : kd = 13
  · exact more _ (does_13 h hx hLx hI xn xs xp aa na ac kd h13)
  · exact more _ (does_no h hx hLx hI xn hxn xs xp aa na ac kd (by omega) (by simpa using h0) (by simpa using h1) (by simpa using h2) (by simpa using h3) (by simpa using h4) (by simpa using h5) (by simpa using h6) (by simpa using h7) (by simpa using h11) (by simpa using h13))
end
end Go.Proofs.YtclflmjpdglgiaaGreat
