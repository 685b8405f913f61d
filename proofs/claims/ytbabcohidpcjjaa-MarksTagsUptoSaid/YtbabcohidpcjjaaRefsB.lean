/-
  Contract: refs.Find: the longest name at the front; the world stays.
-/
import Derived.Test.YtbabcohidpcjjaaRefsA
namespace Go.Proofs.Ytbabcohidpcjjaa
open Go.RowKit Mem

def cutS (p : ByteArray) : ByteArray := ⟨(Lib.trimSuffix p.data.toList [59]).toArray⟩
def cutB (p : ByteArray) : Bool := Lib.hasSuffix p.data.toList [59]
theorem cutS_list (p : ByteArray) : (cutS p).toList = Lib.trimSuffix p.data.toList [59] := by rw [ByteArray.toList_eq]; rfl
theorem hitF_cut (p : ByteArray) : hitF p.toList = if look bareT (cutS p).toList ≠ [] then look bareT (cutS p).toList else if cutB p = true then look boundT (cutS p).toList else [] := by
  rw [cutS_list, ByteArray.toList_eq]
  unfold hitF cutB Lib.trimSuffix Lib.hasSuffix
  cases h : ([59] : Str).isSuffixOf p.data.toList
  · simp
  · simp
theorem cut_any (p : ByteArray) (w : World) (hp : p.size ≤ 9223372036854775807) : Calls Try.prog 83 #[.string p, .string ⟨#[59]⟩] w fun e w' => e = .returned (.tuple #[.string (cutS p), .bool (cutB p)]) ∧ w = w' :=
  (CutSuffix_any p ⟨#[59]⟩ w hp).mono fun _ _ ⟨h1, h2⟩ => ⟨h1, h2.symm⟩
theorem strB_mem (s : ByteArray) : strB s.toList = s := by rw [ByteArray.toList_eq]; rfl
theorem toList_strB (l : Str) : (strB l).toList = l := by rw [ByteArray.toList_eq]; rfl
theorem findUp_hit {s : Str} {j : Nat} {p : ByteArray} {t : Str} (hp : p.toList = s.take (j + 1)) (h : hitF p.toList = t) (ht : t ≠ []) : findUp s (j + 1) = (t, j + 1) := by
  rw [hp] at h
  subst h
  rw [findUp, if_pos ht]
theorem findUp_next {s : Str} {j : Nat} {p : ByteArray} (hp : p.toList = s.take (j + 1)) (h : hitF p.toList = []) : findUp s (j + 1) = findUp s j := by
  rw [hp] at h
  rw [findUp, if_neg (by simp [h])]
theorem ret2_str {a b : ByteArray} {i j : Int} (h : a = b) (h' : i = j) : Ending.returned (.tuple #[.string a, .int .i64 i]) = .returned (.tuple #[.string b, .int .i64 j]) := by rw [h, h']

def HitHow (p : ByteArray) (tb td : ByteArray) (ends : Bool) : Prop :=
  (tb.toList ≠ [] ∧ hitF p.toList = tb.toList) ∨ (tb.toList = [] ∧ ends = true ∧ td.toList ≠ [] ∧ hitF p.toList = td.toList) ∨ (tb.toList = [] ∧ ends = true ∧ td.toList = [] ∧ hitF p.toList = []) ∨ (tb.toList = [] ∧ ends = false ∧ hitF p.toList = [])
theorem hit_cases (p : ByteArray) (w : World) (hp : p.size ≤ 9223372036854775807) : ∃ (nm tb td : ByteArray) (ends : Bool),
    Calls Try.prog 83 #[.string p, .string ⟨#[59]⟩] w (fun e w' => e = .returned (.tuple #[.string nm, .bool ends]) ∧ w = w') ∧
    Calls Try.prog 84 #[.string nm] w (fun e w' => e = .returned (.string tb) ∧ w = w') ∧
    Calls Try.prog 85 #[.string nm] w (fun e w' => e = .returned (.string td) ∧ w = w') ∧ HitHow p tb td ends := by
  refine ⟨cutS p, _, _, cutB p, cut_any p w hp, bare_any (cutS p) w, bound_any (cutS p) w, ?_⟩
  have h := hitF_cut p
  unfold HitHow
  rw [toList_strB, toList_strB]
  by_cases h1 : look bareT (cutS p).toList = []
  · rw [if_neg (by simp [h1])] at h
    cases h2 : cutB p
    · rw [h2] at h
      exact .inr (.inr (.inr ⟨h1, rfl, h⟩))
    · rw [h2, if_pos rfl] at h
      by_cases h3 : look boundT (cutS p).toList = []
      · exact .inr (.inr (.inl ⟨h1, rfl, h3, h.trans h3⟩))
      · exact .inr (.inl ⟨h1, rfl, h3, h⟩)
  · rw [if_pos h1] at h
    exact .inl ⟨h1, h⟩
theorem ne_empty {s : ByteArray} (h : s.toList ≠ []) : s.toList.isEmpty = false := by
  cases hs : s.toList with
  | nil => exact absurd hs h
  | cons c r => rfl
theorem is_empty {s : ByteArray} (h : s.toList = []) : s.toList.isEmpty = true := by rw [h]; rfl

set_option maxHeartbeats 1000000 in
theorem Find_any (s : ByteArray) (w : World) (hs : s.size ≤ 9223372036854775807) : Calls Try.prog 64 #[.string s] w fun e w' => e = .returned (.tuple #[.string (strB (findF s.toList).1), .int .i64 (findF s.toList).2]) ∧ w = w' := by
  have HP : Hid (findF s.toList = findUp s.toList (min s.size 14)) := by show _ = _; rw [findF, size_toList]
  have h0 : ((min s.size 14 : Nat) : Int) = min (s.size : Int) 14 := by omega
  have H0 := Lib.hid h0
  clear h0
  go_enter Try.func64, Try.ntmps64
  go_wp2_with fail
  go_loop [4] (fun i => ∃ k : Nat, k ≤ s.size ∧ k ≤ 14 ∧ i = .int .i64 k ∧ findF s.toList = findUp s.toList k) (fun i => (intOf i).toNat)
  case atStart => exact ⟨min s.size 14, by omega, by omega, by first | rfl | (rw [H0.out]) | (congr 1; exact H0.out.symm), HP.out⟩
  case round =>
    obtain ⟨k, hk, hk2, rfl, hv⟩ := hrel
    have HV := Lib.hid hv
    clear hv
    cases k with
    | zero =>
      go_wp2_with fail
      go_ret2
      exact ⟨ret2_str (by rw [HV.out]; rfl) (by rw [HV.out]; rfl), rfl⟩
    | succ j =>
      have hsz : (s.extract 0 (j + 1)).size ≤ 9223372036854775807 := by rw [ByteArray.size_extract]; omega
      have hpl : (s.extract 0 (j + 1)).toList = s.toList.take (j + 1) := by rw [ext_list, List.drop_zero, Nat.sub_zero]
      obtain ⟨nm, tb, td, ends, hc, hb, hd, hh⟩ := hit_cases (s.extract 0 (j + 1)) w hsz
      have HC := Lib.hid hc
      have HB := Lib.hid hb
      have HD := Lib.hid hd
      have HPL := Lib.hid hpl
      clear hc hb hd hpl
      rcases hh with ⟨h1, h2⟩ | ⟨h1, rfl, h3, h2⟩ | ⟨h1, rfl, h3, h2⟩ | ⟨h1, rfl, h2⟩
      · have HH := Lib.hid h2
        have HN := Lib.hid h1
        have h1' := ne_empty h1
        clear h2
        go_wp2_with (first
          | (go_at_call 83; go_must (refine HC.out.mono ?_; rintro e w1 ⟨rfl, rfl⟩))
          | (go_at_call 84; go_must (refine HB.out.mono ?_; rintro e w1 ⟨rfl, rfl⟩)))
        go_ret2
        exact ⟨ret2_str (by rw [HV.out, findUp_hit HPL.out HH.out HN.out]; exact (strB_mem _).symm) (by rw [HV.out, findUp_hit HPL.out HH.out HN.out]; rfl), rfl⟩
      · have HH := Lib.hid h2
        have HN := Lib.hid h3
        have h1' := is_empty h1
        have h3' := ne_empty h3
        clear h2
        go_wp2_with (first
          | (go_at_call 83; go_must (refine HC.out.mono ?_; rintro e w1 ⟨rfl, rfl⟩))
          | (go_at_call 84; go_must (refine HB.out.mono ?_; rintro e w1 ⟨rfl, rfl⟩))
          | (go_at_call 85; go_must (refine HD.out.mono ?_; rintro e w1 ⟨rfl, rfl⟩)))
        go_ret2
        exact ⟨ret2_str (by rw [HV.out, findUp_hit HPL.out HH.out HN.out]; exact (strB_mem _).symm) (by rw [HV.out, findUp_hit HPL.out HH.out HN.out]; rfl), rfl⟩
      · have HH := Lib.hid h2
        have h1' := is_empty h1
        have h3' := is_empty h3
        clear h2
        go_wp2_with (first
          | (go_at_call 83; go_must (refine HC.out.mono ?_; rintro e w1 ⟨rfl, rfl⟩))
          | (go_at_call 84; go_must (refine HB.out.mono ?_; rintro e w1 ⟨rfl, rfl⟩))
          | (go_at_call 85; go_must (refine HD.out.mono ?_; rintro e w1 ⟨rfl, rfl⟩)))
        go_round
        case rel => exact ⟨j, by omega, by omega, rfl, by rw [HV.out, findUp_next HPL.out HH.out]⟩
        case measure => simp [intOf]
      · have HH := Lib.hid h2
        have h1' := is_empty h1
        clear h2
        go_wp2_with (first
          | (go_at_call 83; go_must (refine HC.out.mono ?_; rintro e w1 ⟨rfl, rfl⟩))
          | (go_at_call 84; go_must (refine HB.out.mono ?_; rintro e w1 ⟨rfl, rfl⟩))
          | (go_at_call 85; go_must (refine HD.out.mono ?_; rintro e w1 ⟨rfl, rfl⟩)))
        go_round
        case rel => exact ⟨j, by omega, by omega, rfl, by rw [HV.out, findUp_next HPL.out HH.out]⟩
        case measure => simp [intOf]
end Go.Proofs.Ytbabcohidpcjjaa
