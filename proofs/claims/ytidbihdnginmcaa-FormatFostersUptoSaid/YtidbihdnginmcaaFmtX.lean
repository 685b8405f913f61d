/-
  The walk of FormatFosters: it returns true for every list of names, every number of rows, fostering on or off, every text within the bound.
-/
import Derived.Test.YtidbihdnginmcaaFmF
import Derived.Test.YtidbihdnginmcaaFmG
import Derived.Deep.Cut
import Derived.Deep.CutRange
import Derived.Deep.CutBlock
import Derived.Deep.RegionHeld3
namespace Go.Proofs.Ytidbihdnginmcaa
open Go.RowKit Mem

def rowVs : List Value := ([⟨#[116, 98, 111, 100, 121]⟩, ⟨#[116, 114]⟩] : List ByteArray).map .string
theorem fosN_step (A : List ByteArray) (j : Nat) (hj : j < 2) : ∃ x, rowVs[j]? = some (.string x) ∧ fosN A (j + 1) = fosN A j ++ [x] := by
  rcases (by omega : j = 0 ∨ j = 1) with rfl | rfl
  · exact ⟨_, rfl, by simp [fosN, rowNs]⟩
  · exact ⟨_, rfl, by simp [fosN, rowNs]⟩
set_option maxRecDepth 100000 in
set_option maxHeartbeats 8000000 in
theorem law_FormatFosters (lst : List ByteArray) (a : Option Addr) (c : Nat) (_ : lst.length ≤ c) (_ : c ≤ maxLen) {w : World} (ha : At w a (strsV lst)) (_ : lst.length ≤ 1048576) (rows : Int) (_ : (Lit.int IntKind.i64 rows).wf = true) (on : Bool) (s : ByteArray) (_ : s.size ≤ maxLen) (hs : s.size ≤ 1048576) :
    Calls Try.prog 7 #[.slice a lst.length c, .int .i64 rows, .bool on, .string s] w fun e w' => e = .returned (.bool true) ∧ Below w.heap.size w w' := by
  have HA := Lib.hid ha
  clear ha
  go_enter Try.func7, Try.ntmps7
  go_wp2_with fail
  refine (shown15_any _).mono ?_
  rintro e w1 ⟨rfl, hb1⟩
  have HNew := Lib.hid (begun_any 200 (by decide) w w1 hb1)
  clear hb1
  go_wp2_with fail
  refine HNew.out.mono ?_
  rintro e w2 ⟨xb, tb, sb, lb, rfl, h2, hw2⟩
  obtain ⟨x0, x1, x2⟩ := hw2.cells
  have HW2 := Lib.hid hw2
  have HI := Lib.hid (Insert_li h2 (by decide) 0 (⟨#[98, 111, 100, 121]⟩ : ByteArray) [] 0 none 0 rfl (fun _ => rfl) (Nat.zero_le _) (At.nil _ _))
  rw [show (⟨[rootN], 200, noFar⟩ : TreeD) = chainT 200 (esF []) from rfl, show ([] : List Int) = upN ([] : List ByteArray).length from rfl, name_step [] (⟨#[98, 111, 100, 121]⟩ : ByteArray) (by decide)] at HI
  clear h2 hw2 HNew
  go_upto_block 0 with (go_at_call 37; go_must (refine HI.out.mono ?_; rintro e w3 ⟨rfl, h3, k3⟩; have H3 := Lib.hid h3; have HW3 := Lib.hid (HW2.out.kept (ex := fun k => k = xb) rfl k3); clear h3 k3))
  clear HI HW2 x0 x1 x2
  go_cut [11] from 37 to 55 (fun s11 wx => ∃ (A : List ByteArray), A.length ≤ 30 ∧ LI w 0 tb sb lb (fun k => k = xb) (chainT 200 (esF ((⟨#[98, 111, 100, 121]⟩ : ByteArray) :: A))) (upN ((⟨#[98, 111, 100, 121]⟩ : ByteArray) :: A).length) [] false wx ∧ WS xb tb sb lb wx)
  case first =>
    go_wp2_with fail
    go_loopw [11] (fun i wr => ∃ k : Nat, k ≤ lst.length ∧ k ≤ 30 ∧ i = .int .i64 k ∧ LI w 0 tb sb lb (fun k => k = xb) (chainT 200 (esF ((⟨#[98, 111, 100, 121]⟩ : ByteArray) :: lst.take k))) (upN ((⟨#[98, 111, 100, 121]⟩ : ByteArray) :: lst.take k).length) [] false wr ∧ WS xb tb sb lb wr) (fun i _ => lst.length - (intOf i).toNat)
    case atStart => exact ⟨0, Nat.zero_le _, Nat.zero_le _, rfl, H3.out, HW3.out⟩
    case round =>
      obtain ⟨k, hk, hk30, rfl, h4, hw4⟩ := hrel
      have H4 := Lib.hid h4
      have HW4 := Lib.hid hw4
      have HLk := Lib.hid (show (lst.take k).length = k by rw [List.length_take]; omega)
      clear h4 hw4
      by_cases hlt : k < lst.length
      · by_cases h30 : k < 30
        · obtain ⟨b, o, rfl, _, e1⟩ := str_cell (HA.out.below H4.out.below) hlt
          obtain ⟨x0, x1, x2⟩ := HW4.out.cells
          have HE := Lib.hid (Insert_li (H4.out.world (stk_drewN wr 1)) (by rw [upN_len]; simp; omega) 0 lst[k] [] 0 none 0 rfl (fun _ => rfl) (Nat.zero_le _) (At.nil _ _))
          rw [name_step _ _ (by simp; omega), List.cons_append, ← List.take_succ_eq_append_getElem hlt] at HE
          have HL1 : Hid (((⟨#[98, 111, 100, 121]⟩ : ByteArray) :: lst.take k).length + 1 = ((⟨#[98, 111, 100, 121]⟩ : ByteArray) :: lst.take (k + 1)).length) := Lib.hid (by simp; omega)
          obtain ⟨x, hx⟩ : ∃ x, x = lst[k] := ⟨_, rfl⟩
          rw [← hx] at e1 HE
          have HX := Lib.hid hx
          clear hx
          go_wp2_with fail
          have q1 : wr.drew.cell? ⟨b, o + k, none⟩ = some (.string x) := e1
          have q2 : wr.drew.cell? ⟨xb, 2, none⟩ = some (.pointer (some ⟨lb, 0, none⟩)) := x2
          have HWd := Lib.hid (HW4.out.below (stk_drewN wr 1))
          go_region_held3 (fun u => u.cell? ⟨b, o + k, none⟩ = some (.string x) ∧ u.cell? ⟨xb, 2, none⟩ = some (.pointer (some ⟨lb, 0, none⟩)))
            (first | exact ⟨q1, q2⟩ | exact ⟨r1, r2⟩)
            (first | (go_at_call 37; go_must (refine HE.out.mono ?_; rintro e w4 ⟨rfl, h4, k4⟩; have HW4' := Lib.hid (HWd.out.kept (ex := fun k => k = xb) rfl k4); have r2 := HW4'.out.cells.2.2; obtain ⟨_, _, he, _, r1⟩ := str_cell (HA.out.below h4.below) hlt; cases he; rw [← HX.out] at r1; have H4' := Lib.hid h4; clear h4 k4)))
          go_wp2_with fail
          go_roundw
          case rel => exact ⟨k + 1, by omega, by omega, by go_num, by rw [← HL1.out]; exact H4'.out, HW4'.out⟩
          case measure => simp [intOf]; omega
        · go_wp2_with fail
          go_meet
          exact ⟨lst.take k, by have := HLk.out; omega, H4.out, HW4.out⟩
      · go_wp2_with fail
        go_meet
        exact ⟨lst.take k, by have := HLk.out; omega, H4.out, HW4.out⟩
  case rest =>
  obtain ⟨A, hA, h3, hw3⟩ := hcut
  clear H3 HW3
  obtain ⟨x0, x1, x2⟩ := hw3.cells
  have HW3 := Lib.hid hw3
  have HLN := Lib.hid (show ((⟨#[98, 111, 100, 121]⟩ : ByteArray) :: A).length = A.length + 1 from rfl)
  have HI := Lib.hid (Insert_li h3 (by rw [upN_len]; simp; omega) 0 (⟨#[116, 97, 98, 108, 101]⟩ : ByteArray) [] 0 none 0 rfl (fun _ => rfl) (Nat.zero_le _) (At.nil _ _))
  rw [name_step _ _ (by simp; omega)] at HI
  change Hid (Calls _ _ _ _ fun e w' => e = .returned (.tuple #[.int .i64 ((A.length + 2 : Nat) : Int), .int .i64 0]) ∧ LI w 0 tb sb lb (fun k => k = xb) (chainT 200 (esF (fosP A))) (upN (A.length + 2)) [] false w' ∧ Keeps (Own w fun k => k = xb) _ w') at HI
  clear h3 hw3
  go_upto_block 2 with (go_at_call 37; go_must (refine HI.out.mono ?_; rintro e w3 ⟨rfl, h3, k3⟩; have H3 := Lib.hid h3; have HW3' := Lib.hid (HW3.out.kept (ex := fun k => k = xb) rfl k3); clear h3 k3))
  have hs3 := H3.out.exlt xb rfl
  have hw4 : WS xb tb sb lb (w3.alloc (.cells #[.string (⟨#[116, 98, 111, 100, 121]⟩ : ByteArray), .string (⟨#[116, 114]⟩ : ByteArray)] 9)) := HW3'.out.below ((Below.refl _ _).alloc (Nat.le_refl _) _)
  have hr4 : Row (w3.alloc (.cells #[.string (⟨#[116, 98, 111, 100, 121]⟩ : ByteArray), .string (⟨#[116, 114]⟩ : ByteArray)] 9)) w3.heap.size rowVs := Row.alloc _ _ _
  have h4 : LI w 0 tb sb lb (fun k => k = xb ∨ k = w3.heap.size) (chainT 200 (esF (fosN A 0))) (upN (A.length + 2 + 0)) [] false (w3.alloc (.cells #[.string (⟨#[116, 98, 111, 100, 121]⟩ : ByteArray), .string (⟨#[116, 114]⟩ : ByteArray)] 9)) := by
    rw [show fosN A 0 = fosP A by simp [fosN, rowNs]]
    refine H3.out.foreign (F := fun _ => False) (Keeps.ofBelow ((Below.refl _ _).alloc (Nat.le_refl _) _)) (fun _ h => h.elim) (fun k hk => ?_)
    rcases hk with rfl | rfl
    · exact ⟨.inl rfl, by simp; omega⟩
    · exact ⟨.inr (Nat.le_refl _), by simp⟩
  generalize w3.alloc (.cells #[.string (⟨#[116, 98, 111, 100, 121]⟩ : ByteArray), .string (⟨#[116, 114]⟩ : ByteArray)] 9) = w4 at *
  generalize w3.heap.size = nb at *
  have H4 := Lib.hid h4
  have HW4 := Lib.hid hw4
  have HR4 := Lib.hid hr4
  clear h4 hw4 hr4 H3 HW3' HW3 x0 x1 x2 HI hs3
  go_cut [14, 16] from 68 to 89 (fun s14 s16 wx => ∃ r : Nat, r ≤ 2 ∧ s14 = .int .i64 ((A.length + 2 + r : Nat) : Int) ∧ LI w 0 tb sb lb (fun k => k = xb ∨ k = nb) (chainT 200 (esF (fosN A r))) (upN (A.length + 2 + r)) [] false wx ∧ WS xb tb sb lb wx)
  case first =>
    go_wp2_with fail
    go_loopw [14, 16] (fun s14 i wr => ∃ j : Nat, j ≤ 2 ∧ i = .int .i64 j ∧ s14 = .int .i64 ((A.length + 2 + j : Nat) : Int) ∧ LI w 0 tb sb lb (fun k => k = xb ∨ k = nb) (chainT 200 (esF (fosN A j))) (upN (A.length + 2 + j)) [] false wr ∧ WS xb tb sb lb wr ∧ Row wr nb rowVs) (fun _ i _ => 2 - (intOf i).toNat)
    case atStart => exact ⟨0, by omega, rfl, rfl, H4.out, HW4.out, HR4.out⟩
    case round =>
      obtain ⟨j, hj, rfl, rfl, h5, hw5, hr5⟩ := hrel
      have H5 := Lib.hid h5
      have HW5 := Lib.hid hw5
      have HR5 := Lib.hid hr5
      clear h5 hw5 hr5
      by_cases hb : (j : Int) < bits BinOp.and IntKind.i64 rows 3
      · by_cases hlt : j < 2
        · obtain ⟨x, hx, hfx⟩ := fosN_step A j hlt
          have HX := Lib.hid hx
          have hl5 := fosN_len A j hj
          obtain ⟨x0, x1, x2⟩ := HW5.out.cells
          have e1 := HR5.out.cell HX.out
          have HE := Lib.hid (Insert_li (H5.out.world (stk_drewN wr 1)) (by rw [upN_len]; omega) 0 x [] 0 none 0 rfl (fun _ => rfl) (Nat.zero_le _) (At.nil _ _))
          have hst := name_step (fosN A j) x (by omega)
          rw [hl5, ← hfx] at hst
          rw [hst] at HE
          have q1 : wr.drew.cell? ⟨nb, j, none⟩ = some (.string x) := e1
          have q2 : wr.drew.cell? ⟨xb, 2, none⟩ = some (.pointer (some ⟨lb, 0, none⟩)) := x2
          have HWd := Lib.hid (HW5.out.below (stk_drewN wr 1))
          have HRd := Lib.hid (HR5.out.below (stk_drewN wr 1) HR5.out.lt)
          have HC := Lib.hid (show ((A.length + 2 + j + 1 : Nat) : Int) = ((A.length + 2 + (j + 1) : Nat) : Int) from rfl)
          clear hst hfx hx hl5
          go_wp2_with fail
          go_region_held3 (fun u => u.cell? ⟨nb, j, none⟩ = some (.string x) ∧ u.cell? ⟨xb, 2, none⟩ = some (.pointer (some ⟨lb, 0, none⟩)))
            (first | exact ⟨q1, q2⟩ | exact ⟨r1, r2⟩)
            (first | (go_at_call 37; go_must (refine HE.out.mono ?_; rintro e w5 ⟨rfl, h6, k6⟩; have HW6 := Lib.hid (HWd.out.kept (ex := fun k => k = xb ∨ k = nb) (.inl rfl) k6); have HR6 := Lib.hid (HRd.out.kept (k6.block nb HRd.out.lt fun h => h.2 (.inr rfl))); have r2 := HW6.out.cells.2.2; have r1 := HR6.out.cell HX.out; have H6 := Lib.hid h6; clear h6 k6)))
          go_wp2_with fail
          go_roundw
          case rel => exact ⟨j + 1, by omega, by go_num, by first | rfl | go_num, H6.out, HW6.out, HR6.out⟩
          case measure => simp [intOf]; omega
        · go_wp2_with fail
          go_meet
          exact ⟨j, hj, rfl, H5.out, HW5.out⟩
      · go_wp2_with fail
        go_meet
        exact ⟨j, hj, rfl, H5.out, HW5.out⟩
  case rest =>
  clear H4 HW4 HR4
  obtain ⟨r, hr, rfl, h3, hw3⟩ := hcut
  obtain ⟨T1, T2, f1, f2, f3, f4, f5, f6⟩ := foster_law A r hr on (⟨#[46]⟩ ++ s) hA (by rw [ByteArray.size_append]; show 1 + s.size ≠ 0; omega)
  have H3 := Lib.hid h3
  obtain ⟨x0, x1, x2⟩ := hw3.cells
  have HW3 := Lib.hid hw3
  have HP := Lib.hid (Parent_li h3 ((A.length + 2 : Nat) : Int))
  rw [f3] at HP
  have HK := Lib.hid (Kids_li h3 ((A.length + 1 : Nat) : Int))
  rw [f4] at HK
  clear h3 hw3
  go_wp2_with (go_at_call 21; go_must (refine HP.out.mono ?_; rintro e w4 ⟨rfl, rfl⟩))
  refine HK.out.mono ?_
  rintro e w4 ⟨v1, rfl, ho1, hb4⟩
  obtain ⟨b1, c1, rfl, hb1, _, hc1⟩ := own_some ho1 (by simp)
  have hl1 := ho1.lt b1 rfl
  have hr1 := own_row ho1
  have hb1' := H3.out.exlt xb (.inl rfl)
  have h4 : LI w 0 tb sb lb (fun k => k = xb ∨ k = b1) (chainT 200 (esF (fosN A r))) (upN (A.length + 2 + r)) [] false w4 :=
    H3.out.foreign (F := fun _ => False) (Keeps.ofBelow hb4) (fun _ h => h.elim) fun k hk => by
      rcases hk with rfl | rfl
      · exact ⟨.inl (.inl rfl), Nat.lt_of_lt_of_le hb1' hb4.size⟩
      · exact ⟨.inr hb1, hl1.2⟩
  have HW4 := Lib.hid (HW3.out.below hb4)
  have HR4 := Lib.hid hr1
  obtain ⟨y0, y1, y2⟩ := HW4.out.cells
  have HF := Lib.hid (Foster_li h4 on)
  clear ho1 hr1 hb4 h4 HP HK x0 x1 x2 H3 HW3 hl1 hb1' hb1
  go_wp2_with fail
  refine HF.out.mono ?_
  rintro e w5 ⟨rfl, h5, k5⟩
  have HW5 := Lib.hid (HW4.out.kept (ex := fun k => k = xb ∨ k = b1) (.inl rfl) k5)
  have HR5 := Lib.hid (HR4.out.kept (k5.block b1 HR4.out.lt fun h => h.2 (.inr rfl)))
  obtain ⟨z0, z1, z2⟩ := HW5.out.cells
  have HT := Lib.hid (Text_li (B' := 1 + s.size) h5 (⟨#[46]⟩ ++ s) (by rw [ByteArray.size_append]; show 0 + (1 + s.size) ≤ _; omega) (by omega))
  rw [f1] at HT
  clear HF h5 k5 y0 y1 y2 HW4 HR4
  go_wp2_with fail
  refine HT.out.mono ?_
  rintro e w6 ⟨rfl, h6, k6⟩
  have HW6 := Lib.hid (HW5.out.kept (ex := fun k => k = xb ∨ k = b1) (.inl rfl) k6)
  have HR6 := Lib.hid (HR5.out.kept (k6.block b1 HR5.out.lt fun h => h.2 (.inr rfl)))
  obtain ⟨y0, y1, y2⟩ := HW6.out.cells
  have HI := Lib.hid (Insert_li h6 (by rw [upN_len]; omega) 0 (⟨#[105]⟩ : ByteArray) [] 0 none 0 rfl (fun _ => rfl) (Nat.zero_le _) (At.nil _ _))
  rw [f2] at HI
  clear HT h6 k6 z0 z1 z2 HW5 HR5
  go_wp2_with (go_at_call 37; go_must (refine HI.out.mono ?_; rintro e w7 ⟨rfl, h7, k7⟩; have HW7 := Lib.hid (HW6.out.kept (ex := fun k => k = xb ∨ k = b1) (.inl rfl) k7); have HR7 := Lib.hid (HR6.out.kept (k7.block b1 HR6.out.lt fun h => h.2 (.inr rfl))); obtain ⟨z0, z1, z2⟩ := HW7.out.cells; have HK := Lib.hid (Kids_li h7 ((A.length + 1 : Nat) : Int)); have H7 := Lib.hid h7; clear h7 k7))
  rw [f6] at HK
  have HPar := Lib.hid (fun u hu => Parent_li (w := u) (w0 := w) (B := 1 + s.size) (tb := tb) (sb := sb) (lb := lb) (ex := fun k => k = xb ∨ k = b1) (T := T2) (l := upN (A.length + 2 + r) ++ [((A.length + 4 + r : Nat) : Int)]) (ent := []) (on := on) hu ((A.length + 4 + r : Nat) : Int))
  rw [f5] at HPar
  clear f1 f2 f3 f4 f5 f6 HI y0 y1 y2 HW6 HR6
  refine HK.out.mono ?_
  rintro e w8 ⟨v2, rfl, ho2, hb8⟩
  cases on with
  | false =>
    obtain ⟨b2, c2, rfl, hb2, _, hc2⟩ := own_some ho2 (by simp)
    have H8 := Lib.hid (H7.out.world hb8)
    have HW8 := HW7.out.below hb8
    obtain ⟨y0, y1, y2⟩ := HW8.cells
    have HP8 := Lib.hid (HPar.out _ H8.out)
    have HN := Lib.hid (ints_any [((A.length + 2 : Nat) : Int)] [((A.length + 2 : Nat) : Int)] (some ⟨b2, 0, none⟩) (some ⟨b1, 0, none⟩) c2 c1 w8 (by simp [maxLen]) (own_row ho2).at ((HR7.out.below hb8 HR7.out.lt).at))
    clear ho2 hb8 HK HPar HW7 HR7 z0 z1 z2 H7 hb2 HW8
    go_wp2_with (first | (go_at_call 21; go_must (refine HP8.out.mono ?_; rintro e w9 ⟨rfl, rfl⟩)) | (go_at_call 40; go_must (refine HN.out.mono ?_; rintro e w9 ⟨rfl, q, rfl⟩)))
    go_ret
    exact ⟨ret_bool (by simp), belowCall H8.out.below (stk_drewN w8 q)⟩
  | true =>
    obtain ⟨b2, c2, rfl, hb2, _, hc2⟩ := own_some ho2 (by simp)
    have H8 := Lib.hid (H7.out.world hb8)
    have HW8 := HW7.out.below hb8
    obtain ⟨y0, y1, y2⟩ := HW8.cells
    have HP8 := Lib.hid (HPar.out _ H8.out)
    have HT8 := Lib.hid (STop_li H8.out)
    rw [show (upN (A.length + 2 + r) ++ [((A.length + 4 + r : Nat) : Int)]).getLast?.getD 0 = ((A.length + 4 + r : Nat) : Int) by simp] at HT8
    have r2 := own_row ho2
    have p0 := r2.cell (j := 0) (u := .int .i64 ((A.length + 3 + r : Nat) : Int)) rfl
    have p1 := r2.cell (j := 1) (u := .int .i64 ((A.length + 4 + r : Nat) : Int)) rfl
    have p2 := r2.cell (j := 2) (u := .int .i64 ((A.length + 2 : Nat) : Int)) rfl
    clear ho2 hb8 HK HPar HW7 HR7 z0 z1 z2 H7 hb2 HW8 r2
    go_wp2_with fail
    go_loop [23] (fun i => ∃ k : Nat, k ≤ 2 ∧ i = .int .i64 k) (fun i => (2 - intOf i).toNat)
    case atStart => exact ⟨0, by omega, rfl⟩
    case round =>
      obtain ⟨k, hk, rfl⟩ := hrel
      rcases (by omega : k = 0 ∨ k = 1 ∨ k = 2) with rfl | rfl | rfl
      · have n0 : (((A.length + 3 + r : Nat) : Int) != ((A.length + 2 : Nat) : Int)) = true := by rw [bne_iff_ne]; omega
        go_wp2_with fail
        go_round
        case rel => exact ⟨1, by omega, rfl⟩
        case measure => simp [intOf]
      · have n0 : (((A.length + 4 + r : Nat) : Int) != ((A.length + 2 : Nat) : Int)) = true := by rw [bne_iff_ne]; omega
        go_wp2_with fail
        go_round
        case rel => exact ⟨2, by omega, rfl⟩
        case measure => simp [intOf]
      · go_wp2_with (first | (go_at_call 21; go_must (refine HP8.out.mono ?_; rintro e w9 ⟨rfl, rfl⟩)) | (go_at_call 33; go_must (refine HT8.out.mono ?_; rintro e w9 ⟨rfl, q, rfl⟩)))
        go_ret
        exact ⟨ret_bool (by simp), belowCall H8.out.below (stk_drewN w8 q)⟩
end Go.Proofs.Ytidbihdnginmcaa
