/-
  The walk of MarksRaw: it returns true.
-/
import Derived.Test.YtbabcohidpcjjaaMkRw
import Derived.Test.YtbabcohidpcjjaaMkRd
import Derived.Deep.DeepCutAuto
namespace Go.Proofs.Ytbabcohidpcjjaa
open Go.RowKit Mem

theorem rawG_get : ∀ (p : UInt8) (l : Str) (k : Nat) (c : UInt8), l[k]? = some c → (rawG p l)[k]? = some (if c = 47 ∧ (p :: l)[k]? = some 60 then 46 else c)
  | p, [], k, c, h => by simp at h
  | p, d :: r, 0, c, h => by
    simp only [List.getElem?_cons_zero, Option.some.injEq] at h
    subst h
    simp [rawG]
  | p, d :: r, k + 1, c, h => by
    rw [List.getElem?_cons_succ] at h
    have := rawG_get d r k c h
    rw [rawG, List.getElem?_cons_succ, this, List.getElem?_cons_succ]
theorem rawG_succ {l : Str} {k : Nat} {c : UInt8} (h : l[k]? = some c) : (rawG 0 l).take (k + 1) = (rawG 0 l).take k ++ [if c = 47 ∧ ((0 : UInt8) :: l)[k]? = some 60 then 46 else c] := by
  rw [List.take_add_one, rawG_get 0 l k c h]
  rfl
theorem raw_at {T : ByteArray} {k : Nat} (h : k < T.size) : T.toList[k]? = some T[k] := by
  have hd := drop_byte T k h
  have h0 : (T.toList.drop k)[0]? = some T[k] := by rw [hd]; rfl
  rw [List.getElem?_drop] at h0
  exact h0
theorem wrap_nat {j : Nat} (h : j < 9223372036854775808) : wrap64 (j : Int) = (j : Int) := by unfold wrap64; omega
theorem raw_char {T : ByteArray} {k : Nat} (h : k < T.size) (hc : T[k] ≠ 47) : (rawG 0 T.toList).take (k + 1) = (rawG 0 T.toList).take k ++ [T[k]] := by
  rw [rawG_succ (raw_at h), if_neg (fun e => hc e.1)]
theorem raw_zero {T : ByteArray} {k : Nat} (h : k < T.size) (hk : k = 0) : (rawG 0 T.toList).take (k + 1) = (rawG 0 T.toList).take k ++ [T[k]] := by
  rw [rawG_succ (raw_at h), if_neg]
  rintro ⟨-, e⟩
  rw [hk, List.getElem?_cons_zero] at e
  exact absurd e (by decide)
theorem raw_prev {T : ByteArray} {k j : Nat} (h : k < T.size) (hj : k = j + 1) (hjT : j < T.size) : (rawG 0 T.toList).take (k + 1) = (rawG 0 T.toList).take k ++ [if T[k] = 47 ∧ T[j] = 60 then 46 else T[k]] := by
  rw [rawG_succ (raw_at h)]
  have : ((0 : UInt8) :: T.toList)[k]? = some T[j] := by rw [hj, List.getElem?_cons_succ]; exact raw_at hjT
  rw [this]
  by_cases h60 : T[j] = 60
  · simp only [h60]
  · rw [if_neg (fun e => h60 (Option.some.inj e.2)), if_neg (fun e => h60 e.2)]
/-- marks without attributes, as a literal has them -/
def bare (l : List MarkD) : MS := l.map fun x => (x, .slice none 0 0)
theorem bare_fst (l : List MarkD) : (bare l).map (·.1) = l := by
  unfold bare
  rw [List.map_map]
  exact List.map_id l
theorem bare_own {l : List MarkD} (h : ∀ x ∈ l, x.attrs = []) (base : Nat) (w : World) : AtsOwn base (bare l) w := fun p hp => by
  obtain ⟨x, hx, rfl⟩ := List.mem_map.1 hp
  show w.ownsRow base _ 2 (.slice none 0 0) x.attrs.length (pairsV (attP x.attrs))
  rw [h x hx]
  exact World.ownsRow_nil _ _ _ _
theorem bare_ats {l : List MarkD} (h : ∀ x ∈ l, x.attrs = []) (w : World) : AtsAt w (bare l) := ats_at (bare_own h 0 w) fun p hp => by
  obtain ⟨x, hx, rfl⟩ := List.mem_map.1 hp
  rw [h x hx]
  exact Nat.zero_le _
theorem bare_one {l : List MarkD} (h : ∀ x ∈ l, x.attrs = []) (w : World) : ∀ u ∈ marksV (bare l), u.oneCell' = true := marksV_one (bare_own h 0 w)
theorem of_wf {n : Int} (h : (Lit.int .i64 n).wf = true) : -9223372036854775808 ≤ n ∧ n ≤ 9223372036854775807 := by
  simp only [Lit.wf, Bool.and_eq_true, decide_eq_true_eq] at h
  exact h
theorem own_lit {w : World} {base : Nat} {t : TypeId} {size n : Nat} {cur : Array Value} (hb : base ≤ w.heap.size) (hc : cur.size = n * size) (hn : n ≤ maxLen) : (w.alloc (.cells cur t)).ownsRow base t size (.slice (some ⟨w.heap.size, 0, none⟩) n n) n cur.toList :=
  ⟨by rw [Array.length_toList, hc], .inr ⟨w.heap.size, n, cur, rfl, hb, heap_alloc_new _ _, Nat.le_refl _, hn, by rw [hc], by rw [← hc, ← Array.length_toList, List.take_length]⟩⟩
set_option maxRecDepth 100000 in
set_option maxHeartbeats 4000000 in
theorem law_MarksRaw (s : ByteArray) (hs : s.size ≤ 1048576) (which : Int) (hwf : (Lit.int .i64 which).wf = true) (y : Int) (w : World) (hm : maxAt w y) :
    Calls Try.prog 8 #[.string s, .int .i64 which] w fun r w' => r = .returned (.bool true) ∧ Below w.heap.size w w' := by
  have HM := Lib.hid hm
  obtain ⟨i0, hi, hz0, hz1, hz2⟩ := info_parts info_u8
  obtain ⟨j0', ji, ji0, ji1, ji2⟩ := info_parts info_mark
  have hpl := putF_len s.toList false
  rw [size_toList] at hpl
  clear hm
  go_enter Try.func8, Try.ntmps8
  go_wp2_with fail
  refine (shown_any y w HM.out).mono ?_
  rintro r W1 ⟨rfl, hb⟩
  have HM1 := Lib.hid (max_below HM.out hb)
  have HB1 := Lib.hid hb
  clear hb HM
  dsimp only
  go_upto_if 17 with fail
  go_cut [1] (fun t wx => ∃ v : Nat, t = .int .i64 v ∧ wx = W1.alloc (.cells #[.string ⟨#[115, 116, 121, 108, 101]⟩, .string ⟨#[115, 99, 114, 105, 112, 116]⟩, .string ⟨#[120, 109, 112]⟩, .string ⟨#[105, 102, 114, 97, 109, 101]⟩, .string ⟨#[110, 111, 101, 109, 98, 101, 100]⟩, .string ⟨#[110, 111, 102, 114, 97, 109, 101, 115]⟩] 9))
  case first =>
    by_cases hneg : which < 0
    · have hrange := (of_wf hwf).1
      have e1 : wrap64 (which + 1) = which + 1 := by unfold wrap64; omega
      have e2 : wrap64 (-(which + 1)) = -(which + 1) := by unfold wrap64; omega
      go_wp2_with fail
      go_meet
      exact ⟨(-(which + 1)).toNat, by rw [Int.toNat_of_nonneg (by omega)], rfl⟩
    · go_wp2_with fail
      go_meet
      exact ⟨which.toNat, by rw [Int.toNat_of_nonneg (by omega)], rfl⟩
  case rest =>
    obtain ⟨v, rfl, rfl⟩ := hcut
    have hj : v % 6 < 6 := Nat.mod_lt _ (by decide)
    have htm : (v : Int).tmod 6 = ((v % 6 : Nat) : Int) := by rw [Int.tmod_eq_emod_of_nonneg (Int.natCast_nonneg _)]; rfl
    generalize v % 6 = j at *
    go_upto_region 5 with fail
    go_cut [7] (fun t wx => ∃ nm : Str, nm ∈ rawW ∧ t = .string (strB nm) ∧ wx = W1.alloc (.cells #[.string ⟨#[115, 116, 121, 108, 101]⟩, .string ⟨#[115, 99, 114, 105, 112, 116]⟩, .string ⟨#[120, 109, 112]⟩, .string ⟨#[105, 102, 114, 97, 109, 101]⟩, .string ⟨#[110, 111, 101, 109, 98, 101, 100]⟩, .string ⟨#[110, 111, 102, 114, 97, 109, 101, 115]⟩] 9))
    case first =>
      rcases (show j = 0 ∨ j = 1 ∨ j = 2 ∨ j = 3 ∨ j = 4 ∨ j = 5 by omega) with rfl | rfl | rfl | rfl | rfl | rfl
      · go_wp2_with fail
        go_meet
        exact ⟨([115, 116, 121, 108, 101] : List UInt8), by decide, rfl, rfl⟩
      · go_wp2_with fail
        go_meet
        exact ⟨([115, 99, 114, 105, 112, 116] : List UInt8), by decide, rfl, rfl⟩
      · go_wp2_with fail
        go_meet
        exact ⟨([120, 109, 112] : List UInt8), by decide, rfl, rfl⟩
      · go_wp2_with fail
        go_meet
        exact ⟨([105, 102, 114, 97, 109, 101] : List UInt8), by decide, rfl, rfl⟩
      · go_wp2_with fail
        go_meet
        exact ⟨([110, 111, 101, 109, 98, 101, 100] : List UInt8), by decide, rfl, rfl⟩
      · go_wp2_with fail
        go_meet
        exact ⟨([110, 111, 102, 114, 97, 109, 101, 115] : List UInt8), by decide, rfl, rfl⟩
    case rest =>
      obtain ⟨nm, hnm, rfl, rfl⟩ := hcut
      have HNM := Lib.hid hnm
      have hbn := (Below.refl W1.heap.size W1).alloc (Nat.le_refl _) (.cells #[.string ⟨#[115, 116, 121, 108, 101]⟩, .string ⟨#[115, 99, 114, 105, 112, 116]⟩, .string ⟨#[120, 109, 112]⟩, .string ⟨#[105, 102, 114, 97, 109, 101]⟩, .string ⟨#[110, 111, 101, 109, 98, 101, 100]⟩, .string ⟨#[110, 111, 102, 114, 97, 109, 101, 115]⟩] 9)
      have HM2 := Lib.hid (max_below HM1.out hbn)
      have HB2 := Lib.hid (belowCall HB1.out hbn)
      clear hbn HM1 HB1 hnm hj htm
      generalize W1.alloc (.cells #[.string ⟨#[115, 116, 121, 108, 101]⟩, .string ⟨#[115, 99, 114, 105, 112, 116]⟩, .string ⟨#[120, 109, 112]⟩, .string ⟨#[105, 102, 114, 97, 109, 101]⟩, .string ⟨#[110, 111, 101, 109, 98, 101, 100]⟩, .string ⟨#[110, 111, 102, 114, 97, 109, 101, 115]⟩] 9) = W2 at *
      go_wp2_with fail
      refine (plain_any s W2 (by omega)).mono ?_
      rintro r W3 ⟨rfl, hb⟩
      have HM3 := Lib.hid (max_below HM2.out hb)
      have HB3 := Lib.hid (belowCall HB2.out hb)
      obtain ⟨T, hT⟩ : ∃ T : ByteArray, T = strB (putF false s.toList) := ⟨_, rfl⟩
      rw [← hT]
      have hTl : T.toList = putF false s.toList := by rw [hT, toList_strB]
      have HOK : Hid (OkB T.toList) := by rw [hTl]; exact putF_ok _ _
      have hTs : T.size ≤ 3145728 := by rw [← size_toList, hTl]; omega
      clear hb HM2 HB2 hT hTl
      dsimp only
      go_wp2_with fail
      go_loopw [9, 10] (fun v i wr => ∃ k : Nat, k ≤ T.size ∧ i = .int .i64 k ∧ wr.ownsRow W3.heap.size 5 1 v k (bytesV ((rawG 0 T.toList).take k)) ∧ Below W3.heap.size W3 wr) (fun _ i _ => T.size - (intOf i).toNat)
      case atStart => exact ⟨0, Nat.zero_le _, rfl, World.ownsRow_nil _ _ _ _, Below.refl _ _⟩
      case round =>
        obtain ⟨k, hk, rfl, ho, hb⟩ := hrel
        have HO := Lib.hid ho
        have HB := Lib.hid hb
        have HZ := Lib.hid hb.size
        clear ho hb
        by_cases hks : k < T.size
        · have b1 : k + 1 ≤ maxLen := by unfold maxLen; omega
          have b2 : (k + 1) * 1 ≤ 140737488355328 := by omega
          by_cases h47 : T[k] = 47
          · have hc1 : ((T[k].toNat : Int) == 47) = true := byte_eq (c := 47) h47
            by_cases hk0 : k = 0
            · have hki : ¬ (0 : Int) < (k : Int) := by omega
              have hsu := raw_zero hks hk0
              generalize (rawG 0 T.toList).take k = acc at *
              clear hk0 h47
              have HSU := Lib.hid hsu
              have HQ := Lib.hid (HO.out.alloc (.cells #[.int .u8 (T[k].toNat : Nat)] 5))
              have HZ2 := Lib.hid (show W3.heap.size ≤ (wr.alloc (.cells #[.int .u8 (T[k].toNat : Nat)] 5)).heap.size from by have := HZ.out; simp; exact Nat.le_succ_of_le this)
              clear hsu
              go_wp2_with (at_builtin; go_must (refine wpList_append_slice _ rfl _ _ 44 rfl W3.heap.size 5 i0 _ 1 1 Try.underlying44 hi hz0 hz1 hz2 rfl (by decide) _ k (bytesV acc) rfl HQ.out (some ⟨wr.heap.size, 0, none⟩) 1 1 (bytesV [T[k]]) rfl rfl (fun h => by cases h) (at_alloc rfl rfl) (bytesV_one' _) b1 b2 HZ2.out ?_; intro v3 w3 hown3 hgr3; have HO3 := Lib.hid hown3; have HG3 := Lib.hid hgr3; clear hown3 hgr3))
              go_roundw
              case rel => exact ⟨k + 1, by omega, by go_num, by rw [HSU.out, bytesV_app]; exact HO3.out, (HB.out.alloc HZ.out _).grown HG3.out HZ2.out (own_base_ge HQ.out)⟩
              case measure => simp [intOf]; omega
            · obtain ⟨j, rfl⟩ : ∃ j, k = j + 1 := ⟨k - 1, by omega⟩
              have hki : (0 : Int) < (j : Int) + 1 := by omega
              have hjT : j < T.size := by omega
              have hjTi : (j : Int) < (T.size : Int) := by omega
              have hsu0 := raw_prev hks rfl hjT
              by_cases h60 : T[j] = 60
              · have hc2 : ((T[j].toNat : Int) == 60) = true := byte_eq (c := 60) h60
                have hsu : (rawG 0 T.toList).take (j + 1 + 1) = (rawG 0 T.toList).take (j + 1) ++ [46] := by rw [hsu0, if_pos ⟨h47, h60⟩]
                generalize (rawG 0 T.toList).take (j + 1) = acc at *
                clear hsu0 hk0 h47 h60
                have HSU := Lib.hid hsu
                have HQ := Lib.hid (HO.out.alloc (.cells #[.int .u8 46] 5))
                have HZ2 := Lib.hid (show W3.heap.size ≤ (wr.alloc (.cells #[.int .u8 46] 5)).heap.size from by have := HZ.out; simp; exact Nat.le_succ_of_le this)
                clear hsu
                go_wp2_with (at_builtin; go_must (refine wpList_append_slice _ rfl _ _ 44 rfl W3.heap.size 5 i0 _ 1 1 Try.underlying44 hi hz0 hz1 hz2 rfl (by decide) _ (j + 1) (bytesV acc) rfl HQ.out (some ⟨wr.heap.size, 0, none⟩) 1 1 (bytesV [46]) rfl rfl (fun h => by cases h) (at_alloc rfl rfl) (bytesV_one' _) b1 b2 HZ2.out ?_; intro v3 w3 hown3 hgr3; have HO3 := Lib.hid hown3; have HG3 := Lib.hid hgr3; clear hown3 hgr3))
                go_roundw
                case rel => exact ⟨j + 1 + 1, by omega, by go_num, by rw [HSU.out, bytesV_app]; exact HO3.out, (HB.out.alloc HZ.out _).grown HG3.out HZ2.out (own_base_ge HQ.out)⟩
                case measure => simp [intOf]; omega
              · have hc2 : ((T[j].toNat : Int) == 60) = false := byte_ne (c := 60) h60
                have hsu : (rawG 0 T.toList).take (j + 1 + 1) = (rawG 0 T.toList).take (j + 1) ++ [T[j + 1]] := by rw [hsu0, if_neg (fun e => h60 e.2)]
                generalize (rawG 0 T.toList).take (j + 1) = acc at *
                clear hsu0 hk0 h47 h60
                have HSU := Lib.hid hsu
                have HQ := Lib.hid (HO.out.alloc (.cells #[.int .u8 (T[j + 1].toNat : Nat)] 5))
                have HZ2 := Lib.hid (show W3.heap.size ≤ (wr.alloc (.cells #[.int .u8 (T[j + 1].toNat : Nat)] 5)).heap.size from by have := HZ.out; simp; exact Nat.le_succ_of_le this)
                clear hsu
                go_wp2_with (at_builtin; go_must (refine wpList_append_slice _ rfl _ _ 44 rfl W3.heap.size 5 i0 _ 1 1 Try.underlying44 hi hz0 hz1 hz2 rfl (by decide) _ (j + 1) (bytesV acc) rfl HQ.out (some ⟨wr.heap.size, 0, none⟩) 1 1 (bytesV [T[j + 1]]) rfl rfl (fun h => by cases h) (at_alloc rfl rfl) (bytesV_one' _) b1 b2 HZ2.out ?_; intro v3 w3 hown3 hgr3; have HO3 := Lib.hid hown3; have HG3 := Lib.hid hgr3; clear hown3 hgr3))
                go_roundw
                case rel => exact ⟨j + 1 + 1, by omega, by go_num, by rw [HSU.out, bytesV_app]; exact HO3.out, (HB.out.alloc HZ.out _).grown HG3.out HZ2.out (own_base_ge HQ.out)⟩
                case measure => simp [intOf]; omega
          · have hc1 : ((T[k].toNat : Int) == 47) = false := byte_ne (c := 47) h47
            have hsu := raw_char hks h47
            generalize (rawG 0 T.toList).take k = acc at *
            clear h47
            have HSU := Lib.hid hsu
            have HQ := Lib.hid (HO.out.alloc (.cells #[.int .u8 (T[k].toNat : Nat)] 5))
            have HZ2 := Lib.hid (show W3.heap.size ≤ (wr.alloc (.cells #[.int .u8 (T[k].toNat : Nat)] 5)).heap.size from by have := HZ.out; simp; exact Nat.le_succ_of_le this)
            clear hsu
            go_wp2_with (at_builtin; go_must (refine wpList_append_slice _ rfl _ _ 44 rfl W3.heap.size 5 i0 _ 1 1 Try.underlying44 hi hz0 hz1 hz2 rfl (by decide) _ k (bytesV acc) rfl HQ.out (some ⟨wr.heap.size, 0, none⟩) 1 1 (bytesV [T[k]]) rfl rfl (fun h => by cases h) (at_alloc rfl rfl) (bytesV_one' _) b1 b2 HZ2.out ?_; intro v3 w3 hown3 hgr3; have HO3 := Lib.hid hown3; have HG3 := Lib.hid hgr3; clear hown3 hgr3))
            go_roundw
            case rel => exact ⟨k + 1, by omega, by go_num, by rw [HSU.out, bytesV_app]; exact HO3.out, (HB.out.alloc HZ.out _).grown HG3.out HZ2.out (own_base_ge HQ.out)⟩
            case measure => simp [intOf]; omega
        · obtain rfl : k = T.size := by omega
          obtain ⟨O, hO⟩ : ∃ O, O = rawG 0 T.toList := ⟨_, rfl⟩
          have hmk := marks_raw HNM.out T.toList HOK.out
          rw [← hO] at HO hmk
          have hOl : O.length = T.size := by rw [hO, rawG_len, size_toList]
          rw [List.take_of_length_le (by omega)] at HO
          have hnl := (rawW_name nm HNM.out).2.1
          rename World => W4
          have HM4 := Lib.hid (max_below HM3.out HB.out)
          have HB4 := Lib.hid (HB3.out.trans (HB.out.mono HB3.out.size))
          have hzw : w.heap.size ≤ W4.heap.size := HB4.out.size
          obtain ⟨oa, oc, hv, -⟩ := own_at HO.out
          subst hv
          have hcat : ((⟨#[60]⟩ : ByteArray) ++ strB nm ++ ⟨#[62]⟩ ++ strB O ++ ⟨#[60, 47]⟩ ++ strB nm ++ ⟨#[62, 60, 33, 45, 45, 45, 45, 62]⟩).toList = tagT false nm [] false ++ (O ++ (tagT true nm [] false ++ [60, 33, 45, 45, 45, 45, 62])) := by
            rw [toList_append', toList_append', toList_append', toList_append', toList_append', toList_append', toList_strB, toList_strB, show (⟨#[60]⟩ : ByteArray).toList = [60] from bytes_list [60], show (⟨#[62]⟩ : ByteArray).toList = [62] from bytes_list [62], show (⟨#[60, 47]⟩ : ByteArray).toList = [60, 47] from bytes_list [60, 47], show (⟨#[62, 60, 33, 45, 45, 45, 45, 62]⟩ : ByteArray).toList = [62, 60, 33, 45, 45, 45, 45, 62] from bytes_list [62, 60, 33, 45, 45, 45, 45, 62], tag_nil, tag_nil]
            simp [ltT]
          have hz1' : (strB nm).size ≤ 10 := by rw [strB_size]; exact hnl
          have hz2' : (strB O).size ≤ 3145728 := by rw [strB_size]; omega
          have hA := fun u hu => Marks_all ((⟨#[60]⟩ : ByteArray) ++ strB nm ++ ⟨#[62]⟩ ++ strB O ++ ⟨#[60, 47]⟩ ++ strB nm ++ ⟨#[62, 60, 33, 45, 45, 45, 45, 62]⟩) y u hu (by
            simp only [ByteArray.size_append]
            show 1 + (strB nm).size + 1 + (strB O).size + 2 + (strB nm).size + 8 ≤ 100000000
            omega)
          rw [hcat, hmk] at hA
          have HA := Lib.hid hA
          have n1 : ¬ 9223372036854775807 < 1 + (strB nm).size := by omega
          have n2 : ¬ 9223372036854775807 < 1 + (strB nm).size + 1 := by omega
          have n3 : ¬ 9223372036854775807 < 1 + (strB nm).size + 1 + (strB O).size := by omega
          have n4 : ¬ 9223372036854775807 < 1 + (strB nm).size + 1 + (strB O).size + 2 := by omega
          have n5 : ¬ 9223372036854775807 < 1 + (strB nm).size + 1 + (strB O).size + 2 + (strB nm).size := by omega
          have n6 : ¬ 9223372036854775807 < 1 + (strB nm).size + 1 + (strB O).size + 2 + (strB nm).size + 8 := by omega
          have hq1 : Hid ((W4.alloc (.cells #[.int .i64 2, .string (strB nm), .slice none 0 0, .bool false, .string ⟨#[]⟩] 36)).ownsRow W4.heap.size 36 5 (.slice (some ⟨W4.heap.size, 0, none⟩) 1 1) 1 (marksV (bare [startM nm]))) := own_lit (Nat.le_refl _) rfl (by decide)
          have hb5 := (Below.refl W4.heap.size W4).alloc (Nat.le_refl _) (.cells #[.int .i64 2, .string (strB nm), .slice none 0 0, .bool false, .string ⟨#[]⟩] 36)
          have HB5 := Lib.hid hb5
          have HOW := Lib.hid HO.out
          clear hA hcat hO hmk HM3 HB3 HO HB HZ hks hb5 hk hpl hnl
          by_cases h0 : T.size = 0
          · have h0i : ¬ (0 : Int) < (T.size : Int) := by omega
            have htx : txF O = [] := by unfold txF; rw [if_pos (List.eq_nil_of_length_eq_zero (by omega))]
            rw [htx] at HA
            have HQ2 := Lib.hid (hq1.out.alloc (.cells #[.int .i64 3, .string (strB nm), .slice none 0 0, .bool false, .string ⟨#[]⟩, .int .i64 4, .string ⟨#[]⟩, .slice none 0 0, .bool false, .string ⟨#[]⟩] 36))
            have HB6 := Lib.hid (HB5.out.alloc HB5.out.size (.cells #[.int .i64 3, .string (strB nm), .slice none 0 0, .bool false, .string ⟨#[]⟩, .int .i64 4, .string ⟨#[]⟩, .slice none 0 0, .bool false, .string ⟨#[]⟩] 36))
            have HZ6 := Lib.hid HB6.out.size
            clear h0 htx
            go_wp2_with (at_builtin; go_must (refine wpList_append_slice _ rfl _ _ 26 rfl W4.heap.size 36 j0' _ 5 72 Try.underlying26 ji ji0 ji1 ji2 rfl (by decide) _ 1 (marksV (bare [startM nm])) rfl HQ2.out (some ⟨W4.heap.size + 1, 0, none⟩) 2 2 (marksV (bare [stopM nm, bareM 4])) rfl rfl (fun h => by cases h) (at_alloc (by simp) rfl) (bare_one (by simp [stopM, bareM]) W4) (by decide) (by decide) HZ6.out ?_; intro v7 w7 hown7 hgr7; rw [← marksV_append] at hown7; have HB7 := Lib.hid (HB6.out.grown hgr7 HZ6.out (own_base_ge HQ2.out)); obtain ⟨a7, c7, hv7, -, -, -, hat7⟩ := own_at hown7; subst hv7; have HAT7 := Lib.hid hat7; have HOW7 := Lib.hid (own_below HOW.out HB7.out); have hback := text_own (P := Try.prog) Try.underlying44 Try.underlying5 Try.underlying9 HOW7.out; clear hown7 hgr7 hat7))
            refine (HA.out w7 (max_below HM4.out HB7.out)).mono ?_
            rintro r W10 ⟨hr, hb10⟩
            obtain ⟨la, lc, La, hra, hla, hoa, hats⟩ := marks_own hr
            subst hra
            have HB10 := Lib.hid (belowCall (HB4.out.trans (HB7.out.mono hzw)) hb10)
            have HATL := Lib.hid (own_at2 hoa).2
            have hla' : La.map (·.1) = [startM nm, stopM nm, bareM 4] := hla
            have HATS := Lib.hid (ats_at hats fun p hp => by
              have h : p.1 ∈ La.map (·.1) := List.mem_map_of_mem hp
              rw [hla'] at h
              have ha : p.1.attrs = [] := by
                revert h
                generalize p.1 = x
                intro h
                simp only [List.mem_cons, List.not_mem_nil, or_false] at h
                rcases h with rfl | rfl | rfl <;> rfl
              rw [ha]
              exact Nat.zero_le _)
            have HWA : Hid (At W10 a7 (marksV (bare [startM nm, stopM nm, bareM 4]))) := HAT7.out.below hb10
            have HWS := Lib.hid (bare_ats (l := [startM nm, stopM nm, bareM 4]) (by simp [startM, stopM, bareM]) W10)
            have hle : La.map (·.1) = (bare [startM nm, stopM nm, bareM 4]).map (·.1) := hla'.trans (bare_fst _).symm
            have hll : La.length ≤ 10000000000 := by
              have := congrArg List.length hla'
              rw [List.length_map] at this
              rw [this]
              simp only [List.length_cons, List.length_nil]
              omega
            have HLE := Lib.hid hle
            clear hr hb10 hla hoa hats hla' hle
            dsimp only
            go_wp2_with fail
            refine (Same_true (M := bare [startM nm, stopM nm, bareM 4]) HLE.out la a7 lc c7 W10 HATL.out HATS.out HWA.out HWS.out hll).mono ?_
            rintro r W11 ⟨rfl, hb11⟩
            have HB11 := Lib.hid (belowCall HB10.out hb11)
            clear hb11
            dsimp only
            go_wp2_with fail
            go_ret
            exact ⟨rfl, HB11.out⟩
          · have h0i : (0 : Int) < (T.size : Int) := by omega
            have htx : txF O = [textM O] := by unfold txF; rw [if_neg (fun e => h0 (by rw [← hOl, e]; rfl))]
            rw [htx] at HA
            have hback0 := text_own (P := Try.prog) Try.underlying44 Try.underlying5 Try.underlying9 (HOW.out.alloc (.cells #[.int .i64 2, .string (strB nm), .slice none 0 0, .bool false, .string ⟨#[]⟩] 36))
            have HQ2 := Lib.hid (hq1.out.alloc (.cells #[.int .i64 1, .string ⟨#[]⟩, .slice none 0 0, .bool false, .string (strB O)] 36))
            have HB6 := Lib.hid (HB5.out.alloc HB5.out.size (.cells #[.int .i64 1, .string ⟨#[]⟩, .slice none 0 0, .bool false, .string (strB O)] 36))
            have HZ6 := Lib.hid HB6.out.size
            clear h0 htx
            go_wp2_with (first
              | (at_builtin; (refine wpList_append_slice _ rfl (.tmp 64) (.tmp 68) 26 rfl W4.heap.size 36 j0' _ 5 72 Try.underlying26 ji ji0 ji1 ji2 rfl (by decide) _ 1 (marksV (bare [startM nm])) rfl HQ2.out (some ⟨W4.heap.size + 1, 0, none⟩) 1 1 (marksV (bare [textM O])) rfl rfl (fun h => by cases h) (at_alloc (by simp) rfl) (bare_one (by simp [textM]) W4) (by decide) (by decide) HZ6.out ?_; intro v7 w7 hown7 hgr7; rw [← marksV_append] at hown7; have HB6' := Lib.hid (HB6.out.grown hgr7 HZ6.out (own_base_ge HQ2.out)); have HQ7 := Lib.hid (World.ownsRow.alloc hown7 (.cells #[.int .i64 3, .string (strB nm), .slice none 0 0, .bool false, .string ⟨#[]⟩, .int .i64 4, .string ⟨#[]⟩, .slice none 0 0, .bool false, .string ⟨#[]⟩] 36)); have HB8 := Lib.hid (HB6'.out.alloc HB6'.out.size (.cells #[.int .i64 3, .string (strB nm), .slice none 0 0, .bool false, .string ⟨#[]⟩, .int .i64 4, .string ⟨#[]⟩, .slice none 0 0, .bool false, .string ⟨#[]⟩] 36)); have HZ8 := Lib.hid HB8.out.size; clear hown7 hgr7))
              | (at_builtin; go_must (refine wpList_append_slice _ rfl (.tmp 70) (.tmp 74) 26 rfl W4.heap.size 36 j0' _ 5 72 Try.underlying26 ji ji0 ji1 ji2 rfl (by decide) _ (1 + 1) (marksV (bare [startM nm] ++ bare [textM O])) rfl HQ7.out (some ⟨w7.heap.size, 0, none⟩) 2 2 (marksV (bare [stopM nm, bareM 4])) rfl rfl (fun h => by cases h) (at_alloc rfl rfl) (bare_one (by simp [stopM, bareM]) W4) (by decide) (by decide) HZ8.out ?_; intro v9 w9 hown9 hgr9; rw [← marksV_append] at hown9; have HB7 := Lib.hid (HB8.out.grown hgr9 HZ8.out (own_base_ge HQ7.out)); obtain ⟨a7, c7, hv7, -, -, -, hat7⟩ := own_at hown9; subst hv7; have HAT7 := Lib.hid hat7; have HOW7 := Lib.hid (own_below HOW.out HB7.out); have hback := text_own (P := Try.prog) Try.underlying44 Try.underlying5 Try.underlying9 HOW7.out; clear hown9 hgr9 hat7)))
            refine (HA.out w9 (max_below HM4.out HB7.out)).mono ?_
            rintro r W10 ⟨hr, hb10⟩
            obtain ⟨la, lc, La, hra, hla, hoa, hats⟩ := marks_own hr
            subst hra
            have HB10 := Lib.hid (belowCall (HB4.out.trans (HB7.out.mono hzw)) hb10)
            have HATL := Lib.hid (own_at2 hoa).2
            have hla' : La.map (·.1) = [startM nm, textM O, stopM nm, bareM 4] := hla
            have HATS := Lib.hid (ats_at hats fun p hp => by
              have h : p.1 ∈ La.map (·.1) := List.mem_map_of_mem hp
              rw [hla'] at h
              have ha : p.1.attrs = [] := by
                revert h
                generalize p.1 = x
                intro h
                simp only [List.mem_cons, List.not_mem_nil, or_false] at h
                rcases h with rfl | rfl | rfl | rfl <;> rfl
              rw [ha]
              exact Nat.zero_le _)
            have HWA : Hid (At W10 a7 (marksV (bare [startM nm, textM O, stopM nm, bareM 4]))) := HAT7.out.below hb10
            have HWS := Lib.hid (bare_ats (l := [startM nm, textM O, stopM nm, bareM 4]) (by simp [startM, stopM, bareM, textM]) W10)
            have hle : La.map (·.1) = (bare [startM nm, textM O, stopM nm, bareM 4]).map (·.1) := hla'.trans (bare_fst _).symm
            have hll : La.length ≤ 10000000000 := by
              have := congrArg List.length hla'
              rw [List.length_map] at this
              rw [this]
              simp only [List.length_cons, List.length_nil]
              omega
            have HLE := Lib.hid hle
            clear hr hb10 hla hoa hats hla' hle
            dsimp only
            go_wp2_with fail
            refine (Same_true (M := bare [startM nm, textM O, stopM nm, bareM 4]) HLE.out la a7 lc c7 W10 HATL.out HATS.out HWA.out HWS.out hll).mono ?_
            rintro r W11 ⟨rfl, hb11⟩
            have HB11 := Lib.hid (belowCall HB10.out hb11)
            clear hb11
            dsimp only
            go_wp2_with fail
            go_ret
            exact ⟨rfl, HB11.out⟩
end Go.Proofs.Ytbabcohidpcjjaa
