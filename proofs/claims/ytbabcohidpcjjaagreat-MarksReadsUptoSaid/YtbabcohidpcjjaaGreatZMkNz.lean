import Derived.Test.YtbabcohidpcjjaaGreatZDzL
/-
  Contracts: marks' reader: New, Next (each case), Mode, Cdata. (Seat 4's '.Z'.)
-/
namespace Go.Proofs.YtbabcohidpcjjaaGreat
open Go.RowKit Mem

/-- the reader's machine at a text's beginning -/
def newP (s : Str) : MkM := { zeroM with buf := putF false s, cr := putC false s, closed := true }
set_option maxHeartbeats 2000000 in
theorem NewP_any (s : ByteArray) (w : World) (hs : s.size ≤ 100000000) :
    Calls Tryz.prog 16 #[.string s] w fun r w' => r = .returned (.pointer (some ⟨w.heap.size, 0, none⟩)) ∧ Row w' w.heap.size (machV (newP s.toList)) ∧ Below w.heap.size w w' := by
  go_enter Tryz.func16, Tryz.ntmps16
  go_wp2_with fail
  refine (put_any zeroM w.heap.size s _ (Row.alloc w _ _) (by show 0 + _ ≤ _; omega)).mono ?_
  rintro r W1 ⟨rfl, r1, k1⟩
  obtain ⟨-, -, hf2, -⟩ := mach_free r1
  obtain ⟨-, -, hc2, -⟩ := mach_row r1
  have HR1 := Lib.hid r1
  have HB1 := Lib.hid (below_keeps ((Below.refl _ w).alloc (Nat.le_refl _) _) (Nat.le_refl _) k1)
  clear k1 r1
  dsimp only
  go_wp2_with fail
  go_ret
  exact ⟨rfl, HR1.out.set 2 (.bool true), HB1.out.setCell (Nat.le_refl _) _⟩
set_option maxHeartbeats 2000000 in
theorem ModeP_any (m : MkM) (b : Nat) (mode : Int) (s : ByteArray) (w : World) (hr : Row w b (machV m)) (hs : s.size ≤ 4294967280) :
    Calls Tryz.prog 21 #[.pointer (some ⟨b, 0, none⟩), .int .i64 mode, .string s] w fun r w' => r = .returned (.tuple #[]) ∧ Row w' b (machV (setF m mode s.toList)) ∧ Keeps (Only b) w w' := by
  have HR := Lib.hid hr
  clear hr
  go_enter Tryz.func21, Tryz.ntmps21
  go_wp2_with fail
  refine (set_any m b mode s w HR.out hs).mono ?_
  rintro r W1 ⟨rfl, r1, k1⟩
  dsimp only
  go_wp2_with fail
  go_end0
  exact ⟨by first | rfl | trivial, r1, k1⟩
theorem mach_cdata {w : World} {b : Nat} {m : MkM} (h : Row w b (machV m)) (v : Bool) : Row (w.setCell ⟨b, 5, none⟩ (.bool v)) b (machV { m with cdata := v }) := h.set 5 (.bool v)
set_option maxHeartbeats 2000000 in
theorem CdataP_any (m : MkM) (b : Nat) (v : Bool) (w : World) (hr : Row w b (machV m)) :
    Calls Tryz.prog 23 #[.pointer (some ⟨b, 0, none⟩), .bool v] w fun r w' => r = .returned (.tuple #[]) ∧ Row w' b (machV { m with cdata := v }) ∧ Keeps (Only b) w w' := by
  have c5 : w.cell? ⟨b, 5, none⟩ = some (.bool m.cdata) := hr.cell (j := 5) rfl
  have f5 : w.frozen? ⟨b, 5, none⟩ = false := hr.frozen (j := 5) (by simp [machV])
  have HR := Lib.hid (mach_cdata hr v)
  clear hr
  go_enter Tryz.func23, Tryz.ntmps23
  go_wp2_with fail
  go_end0
  exact ⟨by first | rfl | trivial, HR.out, keep_set (Keeps.refl _ _) _⟩
set_option maxRecDepth 100000 in
set_option maxHeartbeats 4000000 in
theorem NextP_any (m : MkM) (b : Nat) (y : Int) (w : World) (hr : Row w b (machV m)) (hm : maxAt w y) (hl : m.buf.length ≤ 4294967280) (hn : m.name.length ≤ 4294967280) :
    Calls Tryz.prog 18 #[.pointer (some ⟨b, 0, none⟩)] w fun r w' => NextAt w.heap.size (readF m) r w' ∧ Row w' b (machV (readF m).2) ∧ Keeps (Only b) w w' := by
  have hbw := hr.lt
  have hne : w.heap.size ≠ b := by omega
  obtain ⟨wa, hwa⟩ : ∃ wa, wa = w.alloc (.cells zeroMark 46) := ⟨_, rfl⟩
  have HRa := Lib.hid (show Row wa b (machV m) from hwa ▸ hr.kept (heap_alloc_old _ _ hbw))
  have HZa := Lib.hid (show wa.heap[w.heap.size]? = some (.cells zeroMark 46 (0, 0)) from by rw [hwa]; exact heap_alloc_new _ _)
  have HKa := Lib.hid (show Keeps (Only b) w wa from hwa ▸ (Keeps.refl (Only b) w).alloc _)
  have HMa := Lib.hid (show maxAt wa y from by rw [hwa]; exact cell_later ((Below.refl w.heap.size w).alloc (Nat.le_refl _) _) hm)
  have hzRa : w.heap.size < wa.heap.size := by rw [hwa]; simp
  have HWA : Hid (wa = w.alloc (.cells #[.int .i64 0, .string ⟨#[]⟩, .slice none 0 0, .bool false, .string ⟨#[]⟩] 46)) := hwa
  have HRN := Lib.hid (readF_name _ m (Nat.le_refl _))
  obtain ⟨q, hq⟩ : ∃ q, q = readF m := ⟨_, rfl⟩
  have HRD := Lib.hid (read_any m b y wa HRa.out HMa.out hl hn)
  rw [← hq] at HRN HRD ⊢
  clear hwa hr hm hq
  go_enter Tryz.func18, Tryz.ntmps18
  go_wp2_with fail
  rw [← HWA.out]
  clear HWA
  refine HRD.out.mono ?_
  rintro r W1 ⟨hra, r1, k1⟩
  clear HRD
  obtain ⟨ox, m1⟩ := q
  obtain ⟨-, -, -, -, -, -, -, -, -, hc9⟩ := mach_row r1
  dsimp only at hc9 r1
  have HZ1 := Lib.hid (only_zero HZa.out k1 hzRa hne)
  have HK1 := Lib.hid (HKa.out.trans k1)
  have HR1 := Lib.hid r1
  have hbW := r1.lt
  have hz1 : w.heap.size < W1.heap.size := Nat.lt_of_lt_of_le hzRa k1.size
  obtain ⟨⟨q0, q1, q2, q3, q4⟩, f0, f1, f2, f3, f4⟩ := res_cells HZ1.out
  clear k1 r1
  cases ox with
  | none =>
    have hra' : r = .returned (.tuple #[.agg #[.int .i64 0, .string ⟨#[]⟩, .slice none 0 0, .bool false, .string ⟨#[]⟩], .bool false]) := hra
    subst hra'
    clear hra
    by_cases he : m1.err = 0
    · have heb : (m1.err != 0) = false := by rw [he]; rfl
      have HE := Lib.hid he
      clear he
      dsimp only
      go_wp2_with fail
      have hzp : w.heap.size < (put5 W1 w.heap.size (.int .i64 6) (.string ⟨#[]⟩) (.slice none 0 0) (.bool false) (.string ⟨#[]⟩)).heap.size := by simpa [put5] using hz1
      have hbp : b < (put5 W1 w.heap.size (.int .i64 6) (.string ⟨#[]⟩) (.slice none 0 0) (.bool false) (.string ⟨#[]⟩)).heap.size := by simpa [put5] using hbW
      refine bodyPost_ret (results_attr rfl _ _ w.heap.size _ _ _ _ rfl ((heap_alloc_old _ _ hzp).trans (put5_at HZ1.out _ _ _ _ _)) Tryz.underlying46 rfl mark_info) rfl ?_
      refine ⟨next_none rfl ?_, (put5_row HR1.out (fun e => hne e.symm) _ _ _ _ _).kept (heap_alloc_old _ _ hbp), (put5_keeps HK1.out (Nat.le_refl _) _ _ _ _ _).alloc _⟩
      rw [HE.out, if_neg (fun h => h rfl)]
      rfl
    · have heb : (m1.err != 0) = true := bne_iff_ne.2 he
      have HE := Lib.hid he
      clear he
      have hc9' : (W1.alloc (.cells #[.int .i64 0, .string ⟨#[]⟩, .slice none 0 0, .bool false, .string ⟨#[]⟩] 46)).cell? ⟨b, 9, none⟩ = some (.int .i64 m1.err) := cell_later ((Below.refl _ _).alloc (Nat.le_refl _) _) hc9
      dsimp only
      go_wp2_with fail
      go_region
      all_goals go_wp2_with fail
      all_goals
        have hzp : w.heap.size < (put5 W1 w.heap.size (.int .i64 0) (.string ⟨#[]⟩) (.slice none 0 0) (.bool false) (.string ⟨#[]⟩)).heap.size := by simpa [put5] using hz1
        have hbp : b < (put5 W1 w.heap.size (.int .i64 0) (.string ⟨#[]⟩) (.slice none 0 0) (.bool false) (.string ⟨#[]⟩)).heap.size := by simpa [put5] using hbW
      all_goals refine bodyPost_ret (results_attr rfl _ _ w.heap.size _ _ _ _ rfl (at_drew ((heap_alloc_old _ _ hzp).trans (put5_at HZ1.out _ _ _ _ _))) Tryz.underlying46 rfl mark_info) rfl ?_
      all_goals refine ⟨next_none rfl ?_, row_drew ((put5_row HR1.out (fun e => hne e.symm) _ _ _ _ _).kept (heap_alloc_old _ _ hbp)), draw_keeps ((put5_keeps HK1.out (Nat.le_refl _) _ _ _ _ _).alloc _) 1⟩
      all_goals rw [if_pos HE.out]
      all_goals rfl
  | some x =>
    obtain ⟨sl, rfl, hown⟩ : ∃ sl, r = .returned (.tuple #[markV sl x, .bool true]) ∧ W1.ownsRow wa.heap.size 56 2 sl x.attrs.length (pairsV (attP x.attrs)) := hra
    have he := (HRN.out x m1 rfl).1
    rw [he] at hc9
    obtain ⟨a, c, hsl, -⟩ := own_at hown
    subst hsl
    have HOW := Lib.hid hown
    clear hown he
    dsimp only [markV]
    go_wp2_with fail
    have hzp : w.heap.size < (put5 W1 w.heap.size (.int .i64 x.kind) (.string (strB x.name)) (.slice a x.attrs.length c) (.bool x.self) (.string (strB x.text))).heap.size := by simpa [put5] using hz1
    have hbp : b < (put5 W1 w.heap.size (.int .i64 x.kind) (.string (strB x.name)) (.slice a x.attrs.length c) (.bool x.self) (.string (strB x.text))).heap.size := by simpa [put5] using hbW
    refine bodyPost_ret (results_attr rfl _ _ w.heap.size _ _ _ _ rfl ((heap_alloc_old _ _ hzp).trans (put5_at HZ1.out _ _ _ _ _)) Tryz.underlying46 rfl mark_info) rfl ?_
    exact ⟨next_some rfl ⟨.slice a x.attrs.length c, rfl, own_base ((own_put5 HOW.out hzRa _ _ _ _ _).alloc _) (Nat.le_of_lt hzRa)⟩, (put5_row HR1.out (fun e => hne e.symm) _ _ _ _ _).kept (heap_alloc_old _ _ hbp), (put5_keeps HK1.out (Nat.le_refl _) _ _ _ _ _).alloc _⟩
end Go.Proofs.YtbabcohidpcjjaaGreat
