/-
  Contracts: law 15's does at the kinds that one statement of calls on both lists does. (Printed by wip/does_gen.py.) No conditions beyond those that each lemma types.
-/
import Derived.Test.YtclflmjpdglgiaaGreatDmAC
namespace Go.Proofs.YtclflmjpdglgiaaGreat
open Go.RowKit Mem

theorem restR_len (on : Bool) : ∀ (r i : Nat) (S : AS), (restR on r i S).1.l.length ≤ S.l.length + r ∧ (restR on r i S).1.ent.length = S.ent.length
  | 0, _, _ => ⟨Nat.le_refl _, rfl⟩
  | r + 1, i, S => by
    rw [restR]
    have h := insertL_len S.T S.l on (spaceQ S.T (S.ent.getD i 0)) (nameQ S.T (S.ent.getD i 0)) (attrsQ S.T (S.ent.getD i 0))
    generalize insertL S.T S.l on (spaceQ S.T (S.ent.getD i 0)) (nameQ S.T (S.ent.getD i 0)) (attrsQ S.T (S.ent.getD i 0)) = q at *
    obtain ⟨T2, l2, n2, er⟩ := q
    simp only at h ⊢
    split
    · obtain ⟨h1, h2⟩ := restR_len on r (i + 1) ⟨T2, l2, S.ent.set i n2⟩
      simp only [List.length_set] at h1 h2
      exact ⟨by omega, h2⟩
    · exact ⟨by show l2.length ≤ _; omega, rfl⟩
theorem restL_len (on : Bool) (S : AS) : (restL on S).1.l.length ≤ S.l.length + S.ent.length ∧ (restL on S).1.ent.length ≤ S.ent.length := by
  obtain ⟨h1, h2⟩ := restR_len on (S.ent.length - begF S.l S.ent) (begF S.l S.ent) S
  exact ⟨Nat.le_trans h1 (by omega), Nat.le_of_eq h2⟩
theorem adoptR_len (on : Bool) (name : ByteArray) : ∀ (r t : Nat) (S : AS), (adoptR on name r t S).1.l.length ≤ S.l.length + r ∧ (adoptR on name r t S).1.ent.length ≤ S.ent.length + r
  | 0, _, _ => ⟨Nat.le_refl _, Nat.le_refl _⟩
  | r + 1, t, S => by
    rw [adoptR]
    split
    · exact ⟨by show S.l.length ≤ _; omega, by show S.ent.length ≤ _; omega⟩
    · split
      · exact ⟨by show S.l.length ≤ _; omega, by have := rmF_len S.ent (findF S.T S.ent name); show (rmF _ _).length ≤ _; omega⟩
      · split
        · exact ⟨by show S.l.length ≤ _; omega, by show S.ent.length ≤ _; omega⟩
        · split
          · exact ⟨by show (S.l.take _).length ≤ _; rw [List.length_take]; omega, by have := rmF_len S.ent (findF S.T S.ent name); show (rmF _ _).length ≤ _; omega⟩
          · obtain ⟨h1, h2⟩ := turnL_len S.T S.l S.ent on (findF S.T S.ent name) (blockF S.T S.l (findF S.T S.ent name))
            generalize turnL S.T S.l S.ent on (findF S.T S.ent name) (blockF S.T S.l (findF S.T S.ent name)) = q at *
            obtain ⟨T2, l2, e2, er⟩ := q
            simp only at h1 h2 ⊢
            split
            · obtain ⟨h3, h4⟩ := adoptR_len on name r (t + 1) ⟨T2, l2, e2⟩
              simp only at h3 h4
              exact ⟨by omega, by omega⟩
            · exact ⟨by show l2.length ≤ _; omega, by show e2.length ≤ _; omega⟩
theorem adoptL_len (on : Bool) (name : ByteArray) (S : AS) : (adoptL on name S).1.l.length ≤ S.l.length + 8 ∧ (adoptL on name S).1.ent.length ≤ S.ent.length + 8 := by
  unfold adoptL
  split
  · exact ⟨by show S.l.dropLast.length ≤ _; rw [List.length_dropLast]; omega, by show S.ent.length ≤ _; omega⟩
  · exact adoptR_len on name 8 0 S

section
variable {w0 w : World} {B C B' C' tb sb lb rb qb kb xb : Nat} {S : AS} {on : Bool} {L : Nat → Prop}
set_option maxRecDepth 100000 in
set_option maxHeartbeats 8000000 in
theorem does_1 (h : DL w0 B C tb sb lb rb qb kb S on S on L w) (hx : WX xb tb sb lb kb w) (hLx : L xb) (hI : FI S.T S.l S.ent) (xn : Int) (xs : ByteArray) (xp : Bool) (aa : Option Addr) (na ac : Nat) (kd : Int) (hkd : kd = 1) (hBB : B + xs.size ≤ B') (hMB : B' ≤ 9223372036854775807) (hBC : C + xs.size ≤ C') (hMC : C' ≤ 9223372036854775807) :
    Calls Tryz.prog 6 #[.pointer (some ⟨xb, 0, none⟩), .agg #[.int .i64 kd, .int .i64 xn, .string xs, .bool xp, .slice aa na ac]] w fun e w' =>
      ∃ S', e = .returned (.bool true) ∧ DL w0 B' C' tb sb lb rb qb kb S' on S' on L w' ∧ Nxt S S' ∧ Keeps (Own w0 L) w w' := by
  subst hkd
  have hbx := (Below.refl w.heap.size w).alloc (Nat.le_refl _) (.cells #[.int .i64 1, .int .i64 xn, .string xs, .bool xp, .slice aa na ac] 29)
  have hd1 := h.lay hbx
  have hk1 : Keeps (Own w0 L) w (w.alloc (.cells #[.int .i64 1, .int .i64 xn, .string xs, .bool xp, .slice aa na ac] 29)) := Keeps.ofBelow hbx
  have hB := heap_alloc_new w (.cells #[.int .i64 1, .int .i64 xn, .string xs, .bool xp, .slice aa na ac] 29)
  have hL1 : (fun k => L k ∨ (w.heap.size ≤ k ∧ k < (w.alloc (.cells #[.int .i64 1, .int .i64 xn, .string xs, .bool xp, .slice aa na ac] 29)).heap.size)) w.heap.size := .inr ⟨Nat.le_refl _, by simp⟩
  have hw1 := hx.below hbx
  have HI := Lib.hid hI
  go_enter Tryz.func6, Tryz.ntmps6
  go_wp2_with fail
  generalize w.alloc (.cells #[.int .i64 1, .int .i64 xn, .string xs, .bool xp, .slice aa na ac] 29) = w1 at *
  have r0 := cell_of_row _ _ 0 _ _ _ hB
  have r1 := cell_of_row _ _ 1 _ _ _ hB
  have r2 := cell_of_row _ _ 2 _ _ _ hB
  have r3 := cell_of_row _ _ 3 _ _ _ hB
  have r4 := cell_of_row _ _ 4 _ _ _ hB
  obtain ⟨L1, hL1e⟩ : ∃ L1 : Nat → Prop, L1 = fun k => L k ∨ (w.heap.size ≤ k ∧ k < w1.heap.size) := ⟨_, rfl⟩
  rw [← hL1e] at hd1
  have HLL := Lib.hid (show ∀ k, L k → L1 k by rw [hL1e]; exact fun k hk => .inl hk)
  have HL1 := Lib.hid (show L1 w.heap.size by rw [hL1e]; exact hL1)
  have HLX := Lib.hid (HLL.out xb hLx)
  have HK1 := Lib.hid hk1
  have HD1 := Lib.hid hd1
  have HW1 := Lib.hid hw1
  clear h hbx hd1 hk1 hB hL1 hL1e hx hw1 hLx hI
  obtain ⟨y0, y1, y2, y3⟩ := HW1.out.cells
  have HN : Hid (Nxt S ⟨(textE S.T (placeQ S.T S.l on 0).1 (placeQ S.T S.l on 0).2 xs).1, S.l, S.ent⟩) := Lib.hid ⟨HI.out.grow (textE_mor _ _ _ _), textE_mor _ _ _ _, by show S.ent.length ≤ _; omega, by show S.l.length ≤ _; omega, fun _ h => textE_lm _ _ _ h⟩
  have HP : Hid (∀ {D : Nat} {U : AS} {un : Bool} u, DL w0 B D tb sb lb rb qb kb S on U un L1 u → Calls Tryz.prog 18 #[.pointer (some ⟨lb, 0, none⟩), .string xs] u fun e w' => e = .returned (.int .i64 (textE S.T (placeQ S.T S.l on 0).1 (placeQ S.T S.l on 0).2 xs).2) ∧ DL w0 B' D tb sb lb rb qb kb ⟨(textE S.T (placeQ S.T S.l on 0).1 (placeQ S.T S.l on 0).2 xs).1, S.l, S.ent⟩ on U un L1 w' ∧ Keeps (Own w0 L1) u w') := Lib.hid (fun u hu => hu.callP (Q := fun e _ => e = .returned (.int .i64 (textE S.T (placeQ S.T S.l on 0).1 (placeQ S.T S.l on 0).2 xs).2)) (S' := ⟨(textE S.T (placeQ S.T S.l on 0).1 (placeQ S.T S.l on 0).2 xs).1, S.l, S.ent⟩) (on' := on) (fun ex _ hl => Text_li hl xs hBB hMB))
  have HQ : Hid (∀ {D : Nat} {U : AS} {un : Bool} u, DL w0 D C tb sb lb rb qb kb U un S on L1 u → Calls Tryz.prog 24 #[.pointer (some ⟨kb, 0, none⟩), .string xs] u fun e w' => e = .returned (.int .i64 (textE S.T (placeQ S.T S.l on 0).1 (placeQ S.T S.l on 0).2 xs).2) ∧ DL w0 D C' tb sb lb rb qb kb U un ⟨(textE S.T (placeQ S.T S.l on 0).1 (placeQ S.T S.l on 0).2 xs).1, S.l, S.ent⟩ on L1 w' ∧ Keeps (Own w0 L1) u w') := Lib.hid (fun u hu => hu.callD (Q := fun e _ => e = .returned (.int .i64 (textE S.T (placeQ S.T S.l on 0).1 (placeQ S.T S.l on 0).2 xs).2)) (U' := ⟨(textE S.T (placeQ S.T S.l on 0).1 (placeQ S.T S.l on 0).2 xs).1, S.l, S.ent⟩) (un' := on) (fun ex _ hl => dText_ld hl xs hBC hMC))
  generalize (textE S.T (placeQ S.T S.l on 0).1 (placeQ S.T S.l on 0).2 xs).2 = er at *
  go_wp2_with fail
  have ga : w1.drew.cell? ⟨xb, 2, none⟩ = some (.pointer (some ⟨lb, 0, none⟩)) := y2
  have gb : w1.drew.cell? ⟨xb, 3, none⟩ = some (.pointer (some ⟨kb, 0, none⟩)) := y3
  have gs : w1.drew.cell? ⟨w.heap.size, 2, none⟩ = some (.string xs) := r2
  have E1 := Lib.hid (HD1.out.world ((Below.refl _ w1).drew))
  go_region_held3 (fun u => u.cell? ⟨xb, 2, none⟩ = some (.pointer (some ⟨lb, 0, none⟩)) ∧ u.cell? ⟨xb, 3, none⟩ = some (.pointer (some ⟨kb, 0, none⟩)) ∧ u.cell? ⟨w.heap.size, 2, none⟩ = some (.string xs))
    (first | exact ⟨ga, gb, gs⟩ | exact ⟨ua, ub, us⟩ | exact ⟨va, vb, vs⟩)
    (first
    | (go_at_call 18; refine (HP.out _ E2.out).mono ?_; rintro e w4 ⟨rfl, h4, k4⟩; have va := own_cell k4 HLX.out ua; have vb := own_cell k4 HLX.out ub; have vs := own_cell k4 HL1.out us; have E3 := Lib.hid h4; have K3 := Lib.hid k4; clear h4 k4)
    | (go_at_call 18; refine (HP.out _ E1.out).mono ?_; rintro e w3 ⟨rfl, h3, k3⟩; have ua := own_cell k3 HLX.out ga; have ub := own_cell k3 HLX.out gb; have us := own_cell k3 HL1.out gs; have E2 := Lib.hid h3; have K2 := Lib.hid k3; clear h3 k3)
    | (go_at_call 24; refine (HQ.out _ E2.out).mono ?_; rintro e w4 ⟨rfl, h4, k4⟩; have va := own_cell k4 HLX.out ua; have vb := own_cell k4 HLX.out ub; have vs := own_cell k4 HL1.out us; have E3 := Lib.hid h4; have K3 := Lib.hid k4; clear h4 k4)
    | (go_at_call 24; refine (HQ.out _ E1.out).mono ?_; rintro e w3 ⟨rfl, h3, k3⟩; have ua := own_cell k3 HLX.out ga; have ub := own_cell k3 HLX.out gb; have us := own_cell k3 HL1.out gs; have E2 := Lib.hid h3; have K2 := Lib.hid k3; clear h3 k3))
  all_goals
    go_wp2_with fail
    go_ret
    exact ⟨_, rfl, E3.out.less HLL.out, HN.out, HK1.out.trans (keepsw ((Keeps.refl (Own w0 L1) w1).drew.trans (K2.out.trans K3.out)) HLL.out)⟩

set_option maxRecDepth 100000 in
set_option maxHeartbeats 8000000 in
theorem does_3 (h : DL w0 B C tb sb lb rb qb kb S on S on L w) (hx : WX xb tb sb lb kb w) (hLx : L xb) (hI : FI S.T S.l S.ent) (xn : Int) (xs : ByteArray) (xp : Bool) (aa : Option Addr) (na ac : Nat) (kd : Int) (hkd : kd = 3) (hT1 : 1 ≤ S.T.nodes.length) (hle : S.l.length + S.ent.length < 1000000) :
    Calls Tryz.prog 6 #[.pointer (some ⟨xb, 0, none⟩), .agg #[.int .i64 kd, .int .i64 xn, .string xs, .bool xp, .slice aa na ac]] w fun e w' =>
      ∃ S', e = .returned (.bool true) ∧ DL w0 B C tb sb lb rb qb kb S' on S' on L w' ∧ Nxt S S' ∧ Keeps (Own w0 L) w w' := by
  subst hkd
  have hbx := (Below.refl w.heap.size w).alloc (Nat.le_refl _) (.cells #[.int .i64 3, .int .i64 xn, .string xs, .bool xp, .slice aa na ac] 29)
  have hd1 := h.lay hbx
  have hk1 : Keeps (Own w0 L) w (w.alloc (.cells #[.int .i64 3, .int .i64 xn, .string xs, .bool xp, .slice aa na ac] 29)) := Keeps.ofBelow hbx
  have hB := heap_alloc_new w (.cells #[.int .i64 3, .int .i64 xn, .string xs, .bool xp, .slice aa na ac] 29)
  have hL1 : (fun k => L k ∨ (w.heap.size ≤ k ∧ k < (w.alloc (.cells #[.int .i64 3, .int .i64 xn, .string xs, .bool xp, .slice aa na ac] 29)).heap.size)) w.heap.size := .inr ⟨Nat.le_refl _, by simp⟩
  have hw1 := hx.below hbx
  have HI := Lib.hid hI
  go_enter Tryz.func6, Tryz.ntmps6
  go_wp2_with fail
  generalize w.alloc (.cells #[.int .i64 3, .int .i64 xn, .string xs, .bool xp, .slice aa na ac] 29) = w1 at *
  have r0 := cell_of_row _ _ 0 _ _ _ hB
  have r1 := cell_of_row _ _ 1 _ _ _ hB
  have r2 := cell_of_row _ _ 2 _ _ _ hB
  have r3 := cell_of_row _ _ 3 _ _ _ hB
  have r4 := cell_of_row _ _ 4 _ _ _ hB
  obtain ⟨L1, hL1e⟩ : ∃ L1 : Nat → Prop, L1 = fun k => L k ∨ (w.heap.size ≤ k ∧ k < w1.heap.size) := ⟨_, rfl⟩
  rw [← hL1e] at hd1
  have HLL := Lib.hid (show ∀ k, L k → L1 k by rw [hL1e]; exact fun k hk => .inl hk)
  have HL1 := Lib.hid (show L1 w.heap.size by rw [hL1e]; exact hL1)
  have HLX := Lib.hid (HLL.out xb hLx)
  have HK1 := Lib.hid hk1
  have HD1 := Lib.hid hd1
  have HW1 := Lib.hid hw1
  clear h hbx hd1 hk1 hB hL1 hL1e hx hw1 hLx hI
  obtain ⟨y0, y1, y2, y3⟩ := HW1.out.cells
  have HN : Hid (Nxt S (restL on S).1) := Lib.hid ⟨(restL_fi HI.out hT1 on).1, (restL_fi HI.out hT1 on).2, by have := (restL_len on S).2; omega, by have := (restL_len on S).1; omega, fun _ h => restL_lm h on⟩
  have HP : Hid (∀ {D : Nat} {U : AS} {un : Bool} u, DL w0 B D tb sb lb rb qb kb S on U un L1 u → Calls Tryz.prog 11 #[.pointer (some ⟨lb, 0, none⟩)] u fun e w' => e = .returned (.int .i64 (restL on S).2) ∧ DL w0 B D tb sb lb rb qb kb (restL on S).1 on U un L1 w' ∧ Keeps (Own w0 L1) u w') := Lib.hid (fun u hu => hu.callP (Q := fun e _ => e = .returned (.int .i64 (restL on S).2)) (S' := (restL on S).1) (on' := on) (fun ex _ hl => Restore_li hl hle))
  have HQ : Hid (∀ {D : Nat} {U : AS} {un : Bool} u, DL w0 D C tb sb lb rb qb kb U un S on L1 u → Calls Tryz.prog 26 #[.pointer (some ⟨kb, 0, none⟩)] u fun e w' => e = .returned (.int .i64 (restL on S).2) ∧ DL w0 D C tb sb lb rb qb kb U un (restL on S).1 on L1 w' ∧ Keeps (Own w0 L1) u w') := Lib.hid (fun u hu => hu.callD (Q := fun e _ => e = .returned (.int .i64 (restL on S).2)) (U' := (restL on S).1) (un' := on) (fun ex _ hl => dRestore_ld hl hle HI.out.eel))
  generalize (restL on S).2 = er at *
  go_wp2_with fail
  have ga : w1.drew.cell? ⟨xb, 2, none⟩ = some (.pointer (some ⟨lb, 0, none⟩)) := y2
  have gb : w1.drew.cell? ⟨xb, 3, none⟩ = some (.pointer (some ⟨kb, 0, none⟩)) := y3
  have E1 := Lib.hid (HD1.out.world ((Below.refl _ w1).drew))
  go_region_held3 (fun u => u.cell? ⟨xb, 2, none⟩ = some (.pointer (some ⟨lb, 0, none⟩)) ∧ u.cell? ⟨xb, 3, none⟩ = some (.pointer (some ⟨kb, 0, none⟩)))
    (first | exact ⟨ga, gb⟩ | exact ⟨ua, ub⟩ | exact ⟨va, vb⟩)
    (first
    | (go_at_call 11; refine (HP.out _ E2.out).mono ?_; rintro e w4 ⟨rfl, h4, k4⟩; have va := own_cell k4 HLX.out ua; have vb := own_cell k4 HLX.out ub; have E3 := Lib.hid h4; have K3 := Lib.hid k4; clear h4 k4)
    | (go_at_call 11; refine (HP.out _ E1.out).mono ?_; rintro e w3 ⟨rfl, h3, k3⟩; have ua := own_cell k3 HLX.out ga; have ub := own_cell k3 HLX.out gb; have E2 := Lib.hid h3; have K2 := Lib.hid k3; clear h3 k3)
    | (go_at_call 26; refine (HQ.out _ E2.out).mono ?_; rintro e w4 ⟨rfl, h4, k4⟩; have va := own_cell k4 HLX.out ua; have vb := own_cell k4 HLX.out ub; have E3 := Lib.hid h4; have K3 := Lib.hid k4; clear h4 k4)
    | (go_at_call 26; refine (HQ.out _ E1.out).mono ?_; rintro e w3 ⟨rfl, h3, k3⟩; have ua := own_cell k3 HLX.out ga; have ub := own_cell k3 HLX.out gb; have E2 := Lib.hid h3; have K2 := Lib.hid k3; clear h3 k3))
  all_goals
    go_wp2_with fail
    go_ret
    exact ⟨_, rfl, E3.out.less HLL.out, HN.out, HK1.out.trans (keepsw ((Keeps.refl (Own w0 L1) w1).drew.trans (K2.out.trans K3.out)) HLL.out)⟩

set_option maxRecDepth 100000 in
set_option maxHeartbeats 8000000 in
theorem does_6 (h : DL w0 B C tb sb lb rb qb kb S on S on L w) (hx : WX xb tb sb lb kb w) (hLx : L xb) (hI : FI S.T S.l S.ent) (xn : Int) (xs : ByteArray) (xp : Bool) (aa : Option Addr) (na ac : Nat) (kd : Int) (hkd : kd = 6) :
    Calls Tryz.prog 6 #[.pointer (some ⟨xb, 0, none⟩), .agg #[.int .i64 kd, .int .i64 xn, .string xs, .bool xp, .slice aa na ac]] w fun e w' =>
      ∃ S', e = .returned (.bool true) ∧ DL w0 B C tb sb lb rb qb kb S' on S' on L w' ∧ Nxt S S' ∧ Keeps (Own w0 L) w w' := by
  subst hkd
  have hbx := (Below.refl w.heap.size w).alloc (Nat.le_refl _) (.cells #[.int .i64 6, .int .i64 xn, .string xs, .bool xp, .slice aa na ac] 29)
  have hd1 := h.lay hbx
  have hk1 : Keeps (Own w0 L) w (w.alloc (.cells #[.int .i64 6, .int .i64 xn, .string xs, .bool xp, .slice aa na ac] 29)) := Keeps.ofBelow hbx
  have hB := heap_alloc_new w (.cells #[.int .i64 6, .int .i64 xn, .string xs, .bool xp, .slice aa na ac] 29)
  have hL1 : (fun k => L k ∨ (w.heap.size ≤ k ∧ k < (w.alloc (.cells #[.int .i64 6, .int .i64 xn, .string xs, .bool xp, .slice aa na ac] 29)).heap.size)) w.heap.size := .inr ⟨Nat.le_refl _, by simp⟩
  have hw1 := hx.below hbx
  have HI := Lib.hid hI
  go_enter Tryz.func6, Tryz.ntmps6
  go_wp2_with fail
  generalize w.alloc (.cells #[.int .i64 6, .int .i64 xn, .string xs, .bool xp, .slice aa na ac] 29) = w1 at *
  have r0 := cell_of_row _ _ 0 _ _ _ hB
  have r1 := cell_of_row _ _ 1 _ _ _ hB
  have r2 := cell_of_row _ _ 2 _ _ _ hB
  have r3 := cell_of_row _ _ 3 _ _ _ hB
  have r4 := cell_of_row _ _ 4 _ _ _ hB
  obtain ⟨L1, hL1e⟩ : ∃ L1 : Nat → Prop, L1 = fun k => L k ∨ (w.heap.size ≤ k ∧ k < w1.heap.size) := ⟨_, rfl⟩
  rw [← hL1e] at hd1
  have HLL := Lib.hid (show ∀ k, L k → L1 k by rw [hL1e]; exact fun k hk => .inl hk)
  have HL1 := Lib.hid (show L1 w.heap.size by rw [hL1e]; exact hL1)
  have HLX := Lib.hid (HLL.out xb hLx)
  have HK1 := Lib.hid hk1
  have HD1 := Lib.hid hd1
  have HW1 := Lib.hid hw1
  clear h hbx hd1 hk1 hB hL1 hL1e hx hw1 hLx hI
  obtain ⟨y0, y1, y2, y3⟩ := HW1.out.cells
  have HN : Hid (Nxt S ⟨S.T, S.l.dropLast, S.ent⟩) := Lib.hid ⟨HI.out.sub (List.dropLast_sublist _) (List.Sublist.refl _), Mor.refl _, by show S.ent.length ≤ _; omega, by show S.l.dropLast.length ≤ _; rw [List.length_dropLast]; omega, fun _ h => h⟩
  have HP : Hid (∀ {D : Nat} {U : AS} {un : Bool} u, DL w0 B D tb sb lb rb qb kb S on U un L1 u → Calls Tryz.prog 31 #[.pointer (some ⟨sb, 0, none⟩)] u fun e w' => e = .returned (.int .i64 (S.l.getLast?.getD 0)) ∧ DL w0 B D tb sb lb rb qb kb ⟨S.T, S.l.dropLast, S.ent⟩ on U un L1 w' ∧ Keeps (Own w0 L1) u w') := Lib.hid (fun u hu => hu.callP (Q := fun e _ => e = .returned (.int .i64 (S.l.getLast?.getD 0))) (S' := ⟨S.T, S.l.dropLast, S.ent⟩) (on' := on) (fun ex _ hl => SPop_li hl))
  have HQ : Hid (∀ {D : Nat} {U : AS} {un : Bool} u, DL w0 D C tb sb lb rb qb kb U un S on L1 u → Calls Tryz.prog 32 #[.pointer (some ⟨qb, 0, none⟩)] u fun e w' => e = .returned (.int .i64 (S.l.getLast?.getD 0)) ∧ DL w0 D C tb sb lb rb qb kb U un ⟨S.T, S.l.dropLast, S.ent⟩ on L1 w' ∧ Keeps (Own w0 L1) u w') := Lib.hid (fun u hu => hu.callD (Q := fun e _ => e = .returned (.int .i64 (S.l.getLast?.getD 0))) (U' := ⟨S.T, S.l.dropLast, S.ent⟩) (un' := on) (fun ex _ hl => dPop_ld hl))
  generalize (S.l.getLast?.getD 0) = er at *
  obtain ⟨c0, c1⟩ := HD1.out.cells
  go_wp2_with fail
  have ga : w1.drew.cell? ⟨xb, 1, none⟩ = some (.pointer (some ⟨sb, 0, none⟩)) := y1
  have gb : w1.drew.cell? ⟨xb, 3, none⟩ = some (.pointer (some ⟨kb, 0, none⟩)) := y3
  have gk : w1.drew.cell? ⟨kb, 1, none⟩ = some (.pointer (some ⟨qb, 0, none⟩)) := c1
  have E1 := Lib.hid (HD1.out.world ((Below.refl _ w1).drew))
  go_region_held3 (fun u => u.cell? ⟨xb, 1, none⟩ = some (.pointer (some ⟨sb, 0, none⟩)) ∧ u.cell? ⟨xb, 3, none⟩ = some (.pointer (some ⟨kb, 0, none⟩)) ∧ u.cell? ⟨kb, 1, none⟩ = some (.pointer (some ⟨qb, 0, none⟩)))
    (first | exact ⟨ga, gb, gk⟩ | exact ⟨ua, ub, uk⟩ | exact ⟨va, vb, vk⟩)
    (first
    | (go_at_call 31; refine (HP.out _ E2.out).mono ?_; rintro e w4 ⟨rfl, h4, k4⟩; have va := own_cell k4 HLX.out ua; have vb := own_cell k4 HLX.out ub; have vk := h4.cells.2; have E3 := Lib.hid h4; have K3 := Lib.hid k4; clear h4 k4)
    | (go_at_call 31; refine (HP.out _ E1.out).mono ?_; rintro e w3 ⟨rfl, h3, k3⟩; have ua := own_cell k3 HLX.out ga; have ub := own_cell k3 HLX.out gb; have uk := h3.cells.2; have E2 := Lib.hid h3; have K2 := Lib.hid k3; clear h3 k3)
    | (go_at_call 32; refine (HQ.out _ E2.out).mono ?_; rintro e w4 ⟨rfl, h4, k4⟩; have va := own_cell k4 HLX.out ua; have vb := own_cell k4 HLX.out ub; have vk := h4.cells.2; have E3 := Lib.hid h4; have K3 := Lib.hid k4; clear h4 k4)
    | (go_at_call 32; refine (HQ.out _ E1.out).mono ?_; rintro e w3 ⟨rfl, h3, k3⟩; have ua := own_cell k3 HLX.out ga; have ub := own_cell k3 HLX.out gb; have uk := h3.cells.2; have E2 := Lib.hid h3; have K2 := Lib.hid k3; clear h3 k3))
  all_goals
    go_wp2_with fail
    go_ret
    exact ⟨_, rfl, E3.out.less HLL.out, HN.out, HK1.out.trans (keepsw ((Keeps.refl (Own w0 L1) w1).drew.trans (K2.out.trans K3.out)) HLL.out)⟩

set_option maxRecDepth 100000 in
set_option maxHeartbeats 8000000 in
theorem does_11 (h : DL w0 B C tb sb lb rb qb kb S on S on L w) (hx : WX xb tb sb lb kb w) (hLx : L xb) (hI : FI S.T S.l S.ent) (xn : Int) (xs : ByteArray) (xp : Bool) (aa : Option Addr) (na ac : Nat) (kd : Int) (hkd : kd = 11) :
    Calls Tryz.prog 6 #[.pointer (some ⟨xb, 0, none⟩), .agg #[.int .i64 kd, .int .i64 xn, .string xs, .bool xp, .slice aa na ac]] w fun e w' =>
      ∃ S', e = .returned (.bool true) ∧ DL w0 B C tb sb lb rb qb kb S' on S' on L w' ∧ Nxt S S' ∧ Keeps (Own w0 L) w w' := by
  subst hkd
  have hbx := (Below.refl w.heap.size w).alloc (Nat.le_refl _) (.cells #[.int .i64 11, .int .i64 xn, .string xs, .bool xp, .slice aa na ac] 29)
  have hd1 := h.lay hbx
  have hk1 : Keeps (Own w0 L) w (w.alloc (.cells #[.int .i64 11, .int .i64 xn, .string xs, .bool xp, .slice aa na ac] 29)) := Keeps.ofBelow hbx
  have hB := heap_alloc_new w (.cells #[.int .i64 11, .int .i64 xn, .string xs, .bool xp, .slice aa na ac] 29)
  have hL1 : (fun k => L k ∨ (w.heap.size ≤ k ∧ k < (w.alloc (.cells #[.int .i64 11, .int .i64 xn, .string xs, .bool xp, .slice aa na ac] 29)).heap.size)) w.heap.size := .inr ⟨Nat.le_refl _, by simp⟩
  have hw1 := hx.below hbx
  have HI := Lib.hid hI
  go_enter Tryz.func6, Tryz.ntmps6
  go_wp2_with fail
  generalize w.alloc (.cells #[.int .i64 11, .int .i64 xn, .string xs, .bool xp, .slice aa na ac] 29) = w1 at *
  have r0 := cell_of_row _ _ 0 _ _ _ hB
  have r1 := cell_of_row _ _ 1 _ _ _ hB
  have r2 := cell_of_row _ _ 2 _ _ _ hB
  have r3 := cell_of_row _ _ 3 _ _ _ hB
  have r4 := cell_of_row _ _ 4 _ _ _ hB
  obtain ⟨L1, hL1e⟩ : ∃ L1 : Nat → Prop, L1 = fun k => L k ∨ (w.heap.size ≤ k ∧ k < w1.heap.size) := ⟨_, rfl⟩
  rw [← hL1e] at hd1
  have HLL := Lib.hid (show ∀ k, L k → L1 k by rw [hL1e]; exact fun k hk => .inl hk)
  have HL1 := Lib.hid (show L1 w.heap.size by rw [hL1e]; exact hL1)
  have HLX := Lib.hid (HLL.out xb hLx)
  have HK1 := Lib.hid hk1
  have HD1 := Lib.hid hd1
  have HW1 := Lib.hid hw1
  clear h hbx hd1 hk1 hB hL1 hL1e hx hw1 hLx hI
  obtain ⟨y0, y1, y2, y3⟩ := HW1.out.cells
  have HN : Hid (Nxt S S) := Lib.hid Nxt.same HI.out
  have HP : Hid (∀ {D : Nat} {U : AS} {un : Bool} u, DL w0 B D tb sb lb rb qb kb S on U un L1 u → Calls Tryz.prog 34 #[.pointer (some ⟨lb, 0, none⟩), .string xs] u fun e w' => e = .returned (.int .i64 (findF S.T S.ent xs)) ∧ DL w0 B D tb sb lb rb qb kb S on U un L1 w' ∧ Keeps (Own w0 L1) u w') := Lib.hid (fun u hu => hu.callP (Q := fun e _ => e = .returned (.int .i64 (findF S.T S.ent xs))) (S' := S) (on' := on) (fun ex _ hl => (Find_li hl xs).mono fun _ _ hq => ⟨hq.1, hl.world hq.2, Keeps.ofBelow hq.2⟩))
  have HQ : Hid (∀ {D : Nat} {U : AS} {un : Bool} u, DL w0 D C tb sb lb rb qb kb U un S on L1 u → Calls Tryz.prog 35 #[.pointer (some ⟨kb, 0, none⟩), .string xs] u fun e w' => e = .returned (.int .i64 (findF S.T S.ent xs)) ∧ DL w0 D C tb sb lb rb qb kb U un S on L1 w' ∧ Keeps (Own w0 L1) u w') := Lib.hid (fun u hu => hu.callD (Q := fun e _ => e = .returned (.int .i64 (findF S.T S.ent xs))) (U' := S) (un' := on) (fun ex _ hl => (dFindN_ld hl xs).mono fun _ _ hq => ⟨hq.1, hl.world hq.2, Keeps.ofBelow hq.2⟩))
  generalize (findF S.T S.ent xs) = er at *
  go_wp2_with fail
  have ga : w1.drew.cell? ⟨xb, 2, none⟩ = some (.pointer (some ⟨lb, 0, none⟩)) := y2
  have gb : w1.drew.cell? ⟨xb, 3, none⟩ = some (.pointer (some ⟨kb, 0, none⟩)) := y3
  have gs : w1.drew.cell? ⟨w.heap.size, 2, none⟩ = some (.string xs) := r2
  have E1 := Lib.hid (HD1.out.world ((Below.refl _ w1).drew))
  go_region_held3 (fun u => u.cell? ⟨xb, 2, none⟩ = some (.pointer (some ⟨lb, 0, none⟩)) ∧ u.cell? ⟨xb, 3, none⟩ = some (.pointer (some ⟨kb, 0, none⟩)) ∧ u.cell? ⟨w.heap.size, 2, none⟩ = some (.string xs))
    (first | exact ⟨ga, gb, gs⟩ | exact ⟨ua, ub, us⟩ | exact ⟨va, vb, vs⟩)
    (first
    | (go_at_call 34; refine (HP.out _ E2.out).mono ?_; rintro e w4 ⟨rfl, h4, k4⟩; have va := own_cell k4 HLX.out ua; have vb := own_cell k4 HLX.out ub; have vs := own_cell k4 HL1.out us; have E3 := Lib.hid h4; have K3 := Lib.hid k4; clear h4 k4)
    | (go_at_call 34; refine (HP.out _ E1.out).mono ?_; rintro e w3 ⟨rfl, h3, k3⟩; have ua := own_cell k3 HLX.out ga; have ub := own_cell k3 HLX.out gb; have us := own_cell k3 HL1.out gs; have E2 := Lib.hid h3; have K2 := Lib.hid k3; clear h3 k3)
    | (go_at_call 35; refine (HQ.out _ E2.out).mono ?_; rintro e w4 ⟨rfl, h4, k4⟩; have va := own_cell k4 HLX.out ua; have vb := own_cell k4 HLX.out ub; have vs := own_cell k4 HL1.out us; have E3 := Lib.hid h4; have K3 := Lib.hid k4; clear h4 k4)
    | (go_at_call 35; refine (HQ.out _ E1.out).mono ?_; rintro e w3 ⟨rfl, h3, k3⟩; have ua := own_cell k3 HLX.out ga; have ub := own_cell k3 HLX.out gb; have us := own_cell k3 HL1.out gs; have E2 := Lib.hid h3; have K2 := Lib.hid k3; clear h3 k3))
  all_goals
    go_wp2_with fail
    go_ret
    exact ⟨_, rfl, E3.out.less HLL.out, HN.out, HK1.out.trans (keepsw ((Keeps.refl (Own w0 L1) w1).drew.trans (K2.out.trans K3.out)) HLL.out)⟩

set_option maxRecDepth 100000 in
set_option maxHeartbeats 8000000 in
theorem does_4 (h : DL w0 B C tb sb lb rb qb kb S on S on L w) (hx : WX xb tb sb lb kb w) (hLx : L xb) (hI : FI S.T S.l S.ent) (xn : Int) (xs : ByteArray) (xp : Bool) (aa : Option Addr) (na ac : Nat) (kd : Int) (hkd : kd = 4) (hle : S.ent.length < 1000000) :
    Calls Tryz.prog 6 #[.pointer (some ⟨xb, 0, none⟩), .agg #[.int .i64 kd, .int .i64 xn, .string xs, .bool xp, .slice aa na ac]] w fun e w' =>
      ∃ S', e = .returned (.bool true) ∧ DL w0 B C tb sb lb rb qb kb S' on S' on L w' ∧ Nxt S S' ∧ Keeps (Own w0 L) w w' := by
  subst hkd
  have hbx := (Below.refl w.heap.size w).alloc (Nat.le_refl _) (.cells #[.int .i64 4, .int .i64 xn, .string xs, .bool xp, .slice aa na ac] 29)
  have hd1 := h.lay hbx
  have hk1 : Keeps (Own w0 L) w (w.alloc (.cells #[.int .i64 4, .int .i64 xn, .string xs, .bool xp, .slice aa na ac] 29)) := Keeps.ofBelow hbx
  have hB := heap_alloc_new w (.cells #[.int .i64 4, .int .i64 xn, .string xs, .bool xp, .slice aa na ac] 29)
  have hL1 : (fun k => L k ∨ (w.heap.size ≤ k ∧ k < (w.alloc (.cells #[.int .i64 4, .int .i64 xn, .string xs, .bool xp, .slice aa na ac] 29)).heap.size)) w.heap.size := .inr ⟨Nat.le_refl _, by simp⟩
  have hw1 := hx.below hbx
  have HI := Lib.hid hI
  obtain ⟨y0, y1, y2, y3⟩ := hw1.cells
  go_enter Tryz.func6, Tryz.ntmps6
  go_wp2_with fail
  generalize w.alloc (.cells #[.int .i64 4, .int .i64 xn, .string xs, .bool xp, .slice aa na ac] 29) = w1 at *
  have r0 := cell_of_row _ _ 0 _ _ _ hB
  have r1 := cell_of_row _ _ 1 _ _ _ hB
  have r2 := cell_of_row _ _ 2 _ _ _ hB
  have r3 := cell_of_row _ _ 3 _ _ _ hB
  have r4 := cell_of_row _ _ 4 _ _ _ hB
  obtain ⟨L1, hL1e⟩ : ∃ L1 : Nat → Prop, L1 = fun k => L k ∨ (w.heap.size ≤ k ∧ k < w1.heap.size) := ⟨_, rfl⟩
  rw [← hL1e] at hd1
  have HLL := Lib.hid (show ∀ k, L k → L1 k by rw [hL1e]; exact fun k hk => .inl hk)
  have HL1 := Lib.hid (show L1 w.heap.size by rw [hL1e]; exact hL1)
  have HLX := Lib.hid (HLL.out xb hLx)
  have HK1 := Lib.hid hk1
  have HD1 := Lib.hid hd1
  have HW1 := Lib.hid hw1
  clear h hbx hd1 hk1 hB hL1 hL1e hx hw1 hLx hI
  have HN : Hid (Nxt S ⟨S.T, S.l, S.ent ++ [-1]⟩) := Lib.hid ⟨HI.out.mark, Mor.refl _, by show (S.ent ++ [-1]).length ≤ _; rw [List.length_append, List.length_singleton]; omega, by show S.l.length ≤ _; omega, fun _ h => h⟩
  refine (HD1.out.callP (S' := ⟨S.T, S.l, S.ent ++ [-1]⟩) (on' := on) (fun ex _ hl => Mark_li hl hle)).mono ?_
  rintro e w4 ⟨rfl, h4, k4⟩
  have HD4 := Lib.hid h4
  have HK4 := Lib.hid (HK1.out.trans (keepsw k4 HLL.out))
  obtain ⟨z0, z1, z2, z3⟩ := (HW1.out.kept HLX.out k4).cells
  clear h4 k4 y0 y1 y2 y3
  go_wp2_with fail
  refine (HD4.out.callD (U' := ⟨S.T, S.l, S.ent ++ [-1]⟩) (un' := on) (fun ex _ hl => dMark_ld hl hle)).mono ?_
  rintro e w5 ⟨rfl, h5, k5⟩
  have HD5 := Lib.hid h5
  have HK5 := Lib.hid (HK4.out.trans (keepsw k5 HLL.out))
  clear h5 k5
  go_wp2_with fail
  go_ret
  exact ⟨_, rfl, HD5.out.less HLL.out, HN.out, HK5.out⟩

set_option maxRecDepth 100000 in
set_option maxHeartbeats 8000000 in
theorem does_5 (h : DL w0 B C tb sb lb rb qb kb S on S on L w) (hx : WX xb tb sb lb kb w) (hLx : L xb) (hI : FI S.T S.l S.ent) (xn : Int) (xs : ByteArray) (xp : Bool) (aa : Option Addr) (na ac : Nat) (kd : Int) (hkd : kd = 5) :
    Calls Tryz.prog 6 #[.pointer (some ⟨xb, 0, none⟩), .agg #[.int .i64 kd, .int .i64 xn, .string xs, .bool xp, .slice aa na ac]] w fun e w' =>
      ∃ S', e = .returned (.bool true) ∧ DL w0 B C tb sb lb rb qb kb S' on S' on L w' ∧ Nxt S S' ∧ Keeps (Own w0 L) w w' := by
  subst hkd
  have hbx := (Below.refl w.heap.size w).alloc (Nat.le_refl _) (.cells #[.int .i64 5, .int .i64 xn, .string xs, .bool xp, .slice aa na ac] 29)
  have hd1 := h.lay hbx
  have hk1 : Keeps (Own w0 L) w (w.alloc (.cells #[.int .i64 5, .int .i64 xn, .string xs, .bool xp, .slice aa na ac] 29)) := Keeps.ofBelow hbx
  have hB := heap_alloc_new w (.cells #[.int .i64 5, .int .i64 xn, .string xs, .bool xp, .slice aa na ac] 29)
  have hL1 : (fun k => L k ∨ (w.heap.size ≤ k ∧ k < (w.alloc (.cells #[.int .i64 5, .int .i64 xn, .string xs, .bool xp, .slice aa na ac] 29)).heap.size)) w.heap.size := .inr ⟨Nat.le_refl _, by simp⟩
  have hw1 := hx.below hbx
  have HI := Lib.hid hI
  obtain ⟨y0, y1, y2, y3⟩ := hw1.cells
  go_enter Tryz.func6, Tryz.ntmps6
  go_wp2_with fail
  generalize w.alloc (.cells #[.int .i64 5, .int .i64 xn, .string xs, .bool xp, .slice aa na ac] 29) = w1 at *
  have r0 := cell_of_row _ _ 0 _ _ _ hB
  have r1 := cell_of_row _ _ 1 _ _ _ hB
  have r2 := cell_of_row _ _ 2 _ _ _ hB
  have r3 := cell_of_row _ _ 3 _ _ _ hB
  have r4 := cell_of_row _ _ 4 _ _ _ hB
  obtain ⟨L1, hL1e⟩ : ∃ L1 : Nat → Prop, L1 = fun k => L k ∨ (w.heap.size ≤ k ∧ k < w1.heap.size) := ⟨_, rfl⟩
  rw [← hL1e] at hd1
  have HLL := Lib.hid (show ∀ k, L k → L1 k by rw [hL1e]; exact fun k hk => .inl hk)
  have HL1 := Lib.hid (show L1 w.heap.size by rw [hL1e]; exact hL1)
  have HLX := Lib.hid (HLL.out xb hLx)
  have HK1 := Lib.hid hk1
  have HD1 := Lib.hid hd1
  have HW1 := Lib.hid hw1
  clear h hbx hd1 hk1 hB hL1 hL1e hx hw1 hLx hI
  have HN : Hid (Nxt S ⟨S.T, S.l, clearF S.ent⟩) := Lib.hid ⟨HI.out.sub (List.Sublist.refl _) (clearF_sub _), Mor.refl _, by have := (clearF_sub S.ent).length_le; show (clearF S.ent).length ≤ _; omega, by show S.l.length ≤ _; omega, fun _ h => h⟩
  refine (HD1.out.callP (S' := ⟨S.T, S.l, clearF S.ent⟩) (on' := on) (fun ex _ hl => Clear_li hl)).mono ?_
  rintro e w4 ⟨rfl, h4, k4⟩
  have HD4 := Lib.hid h4
  have HK4 := Lib.hid (HK1.out.trans (keepsw k4 HLL.out))
  obtain ⟨z0, z1, z2, z3⟩ := (HW1.out.kept HLX.out k4).cells
  clear h4 k4 y0 y1 y2 y3
  go_wp2_with fail
  refine (HD4.out.callD (U' := ⟨S.T, S.l, clearF S.ent⟩) (un' := on) (fun ex _ hl => dClear_ld hl)).mono ?_
  rintro e w5 ⟨rfl, h5, k5⟩
  have HD5 := Lib.hid h5
  have HK5 := Lib.hid (HK4.out.trans (keepsw k5 HLL.out))
  clear h5 k5
  go_wp2_with fail
  go_ret
  exact ⟨_, rfl, HD5.out.less HLL.out, HN.out, HK5.out⟩

set_option maxRecDepth 100000 in
set_option maxHeartbeats 8000000 in
theorem does_2 (h : DL w0 B C tb sb lb rb qb kb S on S on L w) (hx : WX xb tb sb lb kb w) (hLx : L xb) (hI : FI S.T S.l S.ent) (xn : Int) (xs : ByteArray) (xp : Bool) (aa : Option Addr) (na ac : Nat) (kd : Int) (hkd : kd = 2) (hl : S.l.length + 10 < 1000000) (hle : S.ent.length + 20 < 1000000) :
    Calls Tryz.prog 6 #[.pointer (some ⟨xb, 0, none⟩), .agg #[.int .i64 kd, .int .i64 xn, .string xs, .bool xp, .slice aa na ac]] w fun e w' =>
      ∃ S', e = .returned (.bool true) ∧ DL w0 B C tb sb lb rb qb kb S' on S' on L w' ∧ Nxt S S' ∧ Keeps (Own w0 L) w w' := by
  subst hkd
  have hbx := (Below.refl w.heap.size w).alloc (Nat.le_refl _) (.cells #[.int .i64 2, .int .i64 xn, .string xs, .bool xp, .slice aa na ac] 29)
  have hd1 := h.lay hbx
  have hk1 : Keeps (Own w0 L) w (w.alloc (.cells #[.int .i64 2, .int .i64 xn, .string xs, .bool xp, .slice aa na ac] 29)) := Keeps.ofBelow hbx
  have hB := heap_alloc_new w (.cells #[.int .i64 2, .int .i64 xn, .string xs, .bool xp, .slice aa na ac] 29)
  have hL1 : (fun k => L k ∨ (w.heap.size ≤ k ∧ k < (w.alloc (.cells #[.int .i64 2, .int .i64 xn, .string xs, .bool xp, .slice aa na ac] 29)).heap.size)) w.heap.size := .inr ⟨Nat.le_refl _, by simp⟩
  have hw1 := hx.below hbx
  have HI := Lib.hid hI
  go_enter Tryz.func6, Tryz.ntmps6
  go_wp2_with fail
  generalize w.alloc (.cells #[.int .i64 2, .int .i64 xn, .string xs, .bool xp, .slice aa na ac] 29) = w1 at *
  have r0 := cell_of_row _ _ 0 _ _ _ hB
  have r1 := cell_of_row _ _ 1 _ _ _ hB
  have r2 := cell_of_row _ _ 2 _ _ _ hB
  have r3 := cell_of_row _ _ 3 _ _ _ hB
  have r4 := cell_of_row _ _ 4 _ _ _ hB
  obtain ⟨L1, hL1e⟩ : ∃ L1 : Nat → Prop, L1 = fun k => L k ∨ (w.heap.size ≤ k ∧ k < w1.heap.size) := ⟨_, rfl⟩
  rw [← hL1e] at hd1
  have HLL := Lib.hid (show ∀ k, L k → L1 k by rw [hL1e]; exact fun k hk => .inl hk)
  have HL1 := Lib.hid (show L1 w.heap.size by rw [hL1e]; exact hL1)
  have HLX := Lib.hid (HLL.out xb hLx)
  have HK1 := Lib.hid hk1
  have HD1 := Lib.hid hd1
  have HW1 := Lib.hid hw1
  clear h hbx hd1 hk1 hB hL1 hL1e hx hw1 hLx hI
  obtain ⟨y0, y1, y2, y3⟩ := HW1.out.cells
  have HN : Hid (Nxt S (adoptL on xs S).1) := Lib.hid ⟨(adoptL_fi HI.out on xs).1, (adoptL_fi HI.out on xs).2, by have := (adoptL_len on xs S).2; omega, by have := (adoptL_len on xs S).1; omega, fun _ h => adoptL_lm h on xs⟩
  have HP : Hid (∀ {U : AS} {un : Bool} u, DL w0 B C tb sb lb rb qb kb S on U un L1 u → Calls Tryz.prog 19 #[.pointer (some ⟨lb, 0, none⟩), .string xs] u fun e w' => e = .returned (.tuple #[.bool (adoptL on xs S).2.1, .int .i64 (adoptL on xs S).2.2]) ∧ DL w0 B C tb sb lb rb qb kb (adoptL on xs S).1 on U un L1 w' ∧ Keeps (Own w0 L1) u w') := Lib.hid (fun u hu => hu.callP (Q := fun e _ => e = .returned (.tuple #[.bool (adoptL on xs S).2.1, .int .i64 (adoptL on xs S).2.2])) (S' := (adoptL on xs S).1) (on' := on) (fun ex _ h' => Adopt_li h' xs hl (by omega)))
  have HQ : Hid (∀ {U : AS} {un : Bool} u, DL w0 B C tb sb lb rb qb kb U un S on L1 u → Calls Tryz.prog 25 #[.pointer (some ⟨kb, 0, none⟩), .string xs] u fun e w' => e = .returned (.tuple #[.bool (adoptL on xs S).2.1, .int .i64 (adoptL on xs S).2.2]) ∧ DL w0 B C tb sb lb rb qb kb U un (adoptL on xs S).1 on L1 w' ∧ Keeps (Own w0 L1) u w') := Lib.hid (fun u hu => hu.callD (Q := fun e _ => e = .returned (.tuple #[.bool (adoptL on xs S).2.1, .int .i64 (adoptL on xs S).2.2])) (U' := (adoptL on xs S).1) (un' := on) (fun ex _ h' => dAdopt_ld h' xs hl hle HI.out))
  generalize (adoptL on xs S).2.1 = a1 at *
  generalize (adoptL on xs S).2.2 = a2 at *
  go_wp2_with fail
  have q2 : w1.drew.cell? ⟨xb, 2, none⟩ = some (.pointer (some ⟨lb, 0, none⟩)) := y2
  have qs : w1.drew.cell? ⟨w.heap.size, 2, none⟩ = some (.string xs) := r2
  have E1 := Lib.hid (HD1.out.world ((Below.refl _ w1).drew))
  have W1d := Lib.hid (HW1.out.below ((Below.refl _ w1).drew))
  go_region_held3 (fun u => u.cell? ⟨xb, 2, none⟩ = some (.pointer (some ⟨lb, 0, none⟩)) ∧ u.cell? ⟨w.heap.size, 2, none⟩ = some (.string xs))
    (first | exact ⟨q2, qs⟩ | exact ⟨u2, us⟩)
    (first | (go_at_call 19; refine (HP.out _ E1.out).mono ?_; rintro e w3 ⟨rfl, h3, k3⟩; have u2 := own_cell k3 HLX.out q2; have us := own_cell k3 HL1.out qs; have E2 := Lib.hid h3; have W2 := Lib.hid (W1d.out.kept HLX.out k3); have K2 := Lib.hid k3; clear h3 k3))
  all_goals
    obtain ⟨z0, z1, z2, z3⟩ := W2.out.cells
    go_wp2_with fail
    have p3 : w3.drew.cell? ⟨xb, 3, none⟩ = some (.pointer (some ⟨kb, 0, none⟩)) := z3
    have ps : w3.drew.cell? ⟨w.heap.size, 2, none⟩ = some (.string xs) := us
    have E2d := Lib.hid (E2.out.world ((Below.refl _ w3).drew))
    go_region_held3 (fun u => u.cell? ⟨xb, 3, none⟩ = some (.pointer (some ⟨kb, 0, none⟩)) ∧ u.cell? ⟨w.heap.size, 2, none⟩ = some (.string xs))
      (first | exact ⟨p3, ps⟩ | exact ⟨v3, vs⟩)
      (first | (go_at_call 25; refine (HQ.out _ E2d.out).mono ?_; rintro e w5 ⟨rfl, h5, k5⟩; have v3 := own_cell k5 HLX.out p3; have vs := own_cell k5 HL1.out ps; have E3 := Lib.hid h5; have K3 := Lib.hid k5; clear h5 k5))
    all_goals
      go_wp2_with fail
      go_ret
      exact ⟨_, by simp, E3.out.less HLL.out, HN.out, HK1.out.trans (keepsw (((Keeps.refl (Own w0 L1) w1).drew.trans K2.out).trans ((Keeps.refl (Own w0 L1) w3).drew.trans K3.out)) HLL.out)⟩
end
end Go.Proofs.YtclflmjpdglgiaaGreat
