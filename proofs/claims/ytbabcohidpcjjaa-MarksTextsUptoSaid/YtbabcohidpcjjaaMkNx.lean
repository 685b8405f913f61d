/-
  Contracts: marks' reader: New, Next (where there is a mark), Mode.
-/
import Derived.Test.YtbabcohidpcjjaaMkTx
namespace Go.Proofs.Ytbabcohidpcjjaa
open Go.RowKit Mem

set_option maxHeartbeats 2000000 in
theorem New_any (s : ByteArray) (w : World) (hs : s.size ≤ 100000000) :
    Calls Try.prog 20 #[.string s] w fun r w' => r = .returned (.pointer (some ⟨w.heap.size, 0, none⟩)) ∧ Row w' w.heap.size (machV (newM s.toList)) ∧ Below w.heap.size w w' := by
  go_enter Try.func20, Try.ntmps20
  go_wp2_with fail
  refine (put_any zeroM w.heap.size s _ (Row.alloc w _ _) (by show 0 + _ ≤ _; omega)).mono ?_
  rintro r W1 ⟨rfl, r1, k1⟩
  obtain ⟨-, -, hf2, -⟩ := mach_free r1
  obtain ⟨-, -, hc2, -⟩ := mach_row r1
  have HR1 := Lib.hid r1
  have HB1 := Lib.hid (below_keeps ((Below.refl _ w).alloc (Nat.le_refl _) _) (Nat.le_refl _) k1)
  clear k1 r1
  dsimp only
  go_wp2_with fail
  go_ret
  exact ⟨rfl, HR1.out.set 2 (.bool true), HB1.out.setCell (Nat.le_refl _) _⟩
set_option maxHeartbeats 2000000 in
theorem Mode_any (m : MkM) (b : Nat) (mode : Int) (s : ByteArray) (w : World) (hr : Row w b (machV m)) (hs : s.size ≤ 4294967280) :
    Calls Try.prog 22 #[.pointer (some ⟨b, 0, none⟩), .int .i64 mode, .string s] w fun r w' => r = .returned (.tuple #[]) ∧ Row w' b (machV (setF m mode s.toList)) ∧ Keeps (Only b) w w' := by
  have HR := Lib.hid hr
  clear hr
  go_enter Try.func22, Try.ntmps22
  go_wp2_with fail
  refine (set_any m b mode s w HR.out hs).mono ?_
  rintro r W1 ⟨rfl, r1, k1⟩
  dsimp only
  go_wp2_with fail
  go_end0
  exact ⟨by first | rfl | trivial, r1, k1⟩
set_option maxRecDepth 100000 in
set_option maxHeartbeats 4000000 in
theorem Next_ok (m m1 : MkM) (x : MarkD) (b : Nat) (y : Int) (w : World) (hx : readF m = (some x, m1)) (he : m1.err = 0) (hr : Row w b (machV m)) (hm : maxAt w y) (hl : m.buf.length ≤ 4294967280) (hn : m.name.length ≤ 4294967280) :
    Calls Try.prog 21 #[.pointer (some ⟨b, 0, none⟩)] w fun r w' => (∃ sl, r = .returned (.tuple #[markV sl x, .int .i64 0]) ∧ w'.ownsRow w.heap.size 38 2 sl x.attrs.length (pairsV (attP x.attrs))) ∧ Row w' b (machV m1) ∧ Keeps (Only b) w w' := by
  have hbw := hr.lt
  have hne : w.heap.size ≠ b := by omega
  obtain ⟨wa, hwa⟩ : ∃ wa, wa = w.alloc (.cells zeroMark 36) := ⟨_, rfl⟩
  have HRa := Lib.hid (show Row wa b (machV m) from hwa ▸ hr.kept (heap_alloc_old _ _ hbw))
  have HZa := Lib.hid (show wa.heap[w.heap.size]? = some (.cells zeroMark 36 (0, 0)) from by rw [hwa]; exact heap_alloc_new _ _)
  have HKa := Lib.hid (show Keeps (Only b) w wa from hwa ▸ (Keeps.refl (Only b) w).alloc _)
  have HMa := Lib.hid (show maxAt wa y from by rw [hwa]; exact cell_later ((Below.refl w.heap.size w).alloc (Nat.le_refl _) _) hm)
  have hzRa : w.heap.size < wa.heap.size := by rw [hwa]; simp
  have HWA : Hid (wa = w.alloc (.cells #[.int .i64 0, .string ⟨#[]⟩, .slice none 0 0, .bool false, .string ⟨#[]⟩] 36)) := hwa
  have HX := Lib.hid hx
  have HE := Lib.hid he
  clear hwa hr hm hx he
  go_enter Try.func21, Try.ntmps21
  go_wp2_with fail
  rw [← HWA.out]
  clear HWA
  refine (read_any m b y wa HRa.out HMa.out hl hn).mono ?_
  rw [HX.out]
  rintro r W1 ⟨⟨sl, rfl, hown⟩, r1, k1⟩
  obtain ⟨a, c, hsl, -⟩ := own_at hown
  subst hsl
  obtain ⟨-, -, -, -, -, -, -, -, -, hc9⟩ := mach_row r1
  dsimp only at hc9
  rw [HE.out] at hc9
  have HZ1 := Lib.hid (only_zero HZa.out k1 hzRa hne)
  have HK1 := Lib.hid (HKa.out.trans k1)
  have HR1 := Lib.hid r1
  have HOW := Lib.hid hown
  have hbW := r1.lt
  have hz1 : w.heap.size < W1.heap.size := Nat.lt_of_lt_of_le hzRa k1.size
  obtain ⟨⟨q0, q1, q2, q3, q4⟩, f0, f1, f2, f3, f4⟩ := res_cells HZ1.out
  clear k1 r1 hown
  dsimp only [markV]
  go_wp2_with fail
  have hzp : w.heap.size < (put5 W1 w.heap.size (.int .i64 x.kind) (.string (strB x.name)) (.slice a x.attrs.length c) (.bool x.self) (.string (strB x.text))).heap.size := by simpa [put5] using hz1
  have hbp : b < (put5 W1 w.heap.size (.int .i64 x.kind) (.string (strB x.name)) (.slice a x.attrs.length c) (.bool x.self) (.string (strB x.text))).heap.size := by simpa [put5] using hbW
  refine bodyPost_ret (results_attr rfl _ _ w.heap.size _ _ _ _ rfl ((heap_alloc_old _ _ hzp).trans (put5_at HZ1.out _ _ _ _ _)) Try.underlying36 rfl mark_info) rfl ?_
  exact ⟨⟨.slice a x.attrs.length c, rfl, own_base ((own_put5 HOW.out hzRa _ _ _ _ _).alloc _) (Nat.le_of_lt hzRa)⟩, (put5_row HR1.out (fun e => hne e.symm) _ _ _ _ _).kept (heap_alloc_old _ _ hbp), (put5_keeps HK1.out (Nat.le_refl _) _ _ _ _ _).alloc _⟩
end Go.Proofs.Ytbabcohidpcjjaa
