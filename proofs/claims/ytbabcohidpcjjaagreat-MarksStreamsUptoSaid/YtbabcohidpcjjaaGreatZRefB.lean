import Derived.Test.YtbabcohidpcjjaaGreatZShelf
import Derived.Test.YtbabcohidpcjjaaGreatZRefA
import Derived.Test.YtbabcohidpcjjaaGreatZMem
import Derived.Deep.DeepMust
import Derived.Deep.QuietTactic
import Derived.BigQuiet
import Derived.Deep.RegionWith
/-
  Contracts: refs.bare, refs.bound, colanderref12.begins: what each computes; the world stays.
-/
namespace Go.Proofs.YtbabcohidpcjjaaGreat
open Go.RowKit Mem

def strB (l : Str) : ByteArray := ⟨l.toArray⟩
theorem strB_list (l : Str) : (strB l).data.toList = l := rfl
theorem strB_of (s : ByteArray) : strB s.data.toList = s := rfl
theorem look_lit {T : List (Str × Str)} {x l v : Str} (h : (x == l) = true) (hv : look T l = v) : look T x = v := by
  have : x = l := by simpa using h
  rw [this]; exact hv
theorem ret_str {a b : ByteArray} {l : Str} (h : l = b.data.toList) (e : a = b) : Ending.returned (.string a) = .returned (.string (strB l)) := by
  subst h e; rfl
set_option maxRecDepth 100000 in
set_option maxHeartbeats 4000000 in
theorem bare_any (name : ByteArray) (w : World) : Calls Tryz.prog 106 #[.string name] w fun e w' => e = .returned (.string (strB (look bareT name.toList))) ∧ w = w' := by
  go_enter Tryz.func106, Tryz.ntmps106
  go_wp2_with fail
  all_goals go_ret
  all_goals exact ⟨ret_str (by first | exact look_lit ‹_› (by decide) | exact clash (x := name.toList) (l := [97, 109, 112]) ‹_› ‹_› | exact clash (x := name.toList) (l := [108, 116]) ‹_› ‹_› | simp [look, bareT, *]) rfl, rfl⟩

set_option maxRecDepth 100000 in
set_option maxHeartbeats 8000000 in
theorem bound_any (name : ByteArray) (w : World) : Calls Tryz.prog 107 #[.string name] w fun e w' => e = .returned (.string (strB (look boundT name.toList))) ∧ w = w' := by
  go_enter Tryz.func107, Tryz.ntmps107
  go_wp2_with fail
  all_goals go_ret
  all_goals exact ⟨ret_str (by first | exact look_lit ‹_› (by decide) | simp [look, boundT, *]) rfl, rfl⟩

theorem ext_list (s : ByteArray) (a b : Nat) : (s.extract a b).toList = (s.toList.drop a).take (b - a) := by
  rw [Lib.extract_toList, ByteArray.toList_eq]
theorem pre_beq (s p : ByteArray) : ((s.extract 0 p.size).toList == p.toList) = p.toList.isPrefixOf s.toList := by
  rw [ext_list, List.drop_zero, Nat.sub_zero, Bool.eq_iff_iff, List.isPrefixOf_iff_prefix, List.prefix_iff_eq_take, size_toList]
  exact ⟨fun h => (beq_iff_eq.1 h).symm, fun h => beq_iff_eq.2 h.symm⟩
theorem pre_long (s p : ByteArray) (h : ¬ p.size ≤ s.size) : false = p.toList.isPrefixOf s.toList := by
  symm
  rw [Bool.eq_false_iff]
  intro h'
  have := (List.isPrefixOf_iff_prefix.1 h').length_le
  rw [size_toList, size_toList] at this
  exact h this
theorem begins12_any (s p : ByteArray) (w : World) : Calls Tryz.prog 56 #[.string s, .string p] w fun e w' => e = .returned (.bool (p.toList.isPrefixOf s.toList)) ∧ w = w' := by
  by_cases h : p.size ≤ s.size
  · have HP := Lib.hid (pre_beq s p)
    go_enter Tryz.func56, Tryz.ntmps56
    go_wp2_with fail
    go_ret
    exact ⟨ret_bool HP.out, rfl⟩
  · have HP := Lib.hid (pre_long s p h)
    go_enter Tryz.func56, Tryz.ntmps56
    go_wp2_with fail
    go_ret
    exact ⟨ret_bool HP.out, rfl⟩
end Go.Proofs.YtbabcohidpcjjaaGreat

/-
  Contract: refs.Find: the longest name at the front; the world stays.
-/
namespace Go.Proofs.YtbabcohidpcjjaaGreat
open Go.RowKit Mem

def cutS (p : ByteArray) : ByteArray := ⟨(Lib.trimSuffix p.data.toList [59]).toArray⟩
def cutB (p : ByteArray) : Bool := Lib.hasSuffix p.data.toList [59]
theorem cutS_list (p : ByteArray) : (cutS p).toList = Lib.trimSuffix p.data.toList [59] := by rw [ByteArray.toList_eq]; rfl
theorem hitF_cut (p : ByteArray) : hitF p.toList = if look bareT (cutS p).toList ≠ [] then look bareT (cutS p).toList else if cutB p = true then look boundT (cutS p).toList else [] := by
  rw [cutS_list, ByteArray.toList_eq]
  unfold hitF cutB Lib.trimSuffix Lib.hasSuffix
  cases h : ([59] : Str).isSuffixOf p.data.toList
  · simp
  · simp
theorem cut_any (p : ByteArray) (w : World) (hp : p.size ≤ 9223372036854775807) : Calls Tryz.prog 105 #[.string p, .string ⟨#[59]⟩] w fun e w' => e = .returned (.tuple #[.string (cutS p), .bool (cutB p)]) ∧ w = w' :=
  (CutSuffix_any p ⟨#[59]⟩ w hp).mono fun _ _ ⟨h1, h2⟩ => ⟨h1, h2.symm⟩
theorem strB_mem (s : ByteArray) : strB s.toList = s := by rw [ByteArray.toList_eq]; rfl
theorem toList_strB (l : Str) : (strB l).toList = l := by rw [ByteArray.toList_eq]; rfl
theorem findUp_hit {s : Str} {j : Nat} {p : ByteArray} {t : Str} (hp : p.toList = s.take (j + 1)) (h : hitF p.toList = t) (ht : t ≠ []) : findUp s (j + 1) = (t, j + 1) := by
  rw [hp] at h
  subst h
  rw [findUp, if_pos ht]
theorem findUp_next {s : Str} {j : Nat} {p : ByteArray} (hp : p.toList = s.take (j + 1)) (h : hitF p.toList = []) : findUp s (j + 1) = findUp s j := by
  rw [hp] at h
  rw [findUp, if_neg (by simp [h])]
theorem ret2_str {a b : ByteArray} {i j : Int} (h : a = b) (h' : i = j) : Ending.returned (.tuple #[.string a, .int .i64 i]) = .returned (.tuple #[.string b, .int .i64 j]) := by rw [h, h']

def HitHow (p : ByteArray) (tb td : ByteArray) (ends : Bool) : Prop :=
  (tb.toList ≠ [] ∧ hitF p.toList = tb.toList) ∨ (tb.toList = [] ∧ ends = true ∧ td.toList ≠ [] ∧ hitF p.toList = td.toList) ∨ (tb.toList = [] ∧ ends = true ∧ td.toList = [] ∧ hitF p.toList = []) ∨ (tb.toList = [] ∧ ends = false ∧ hitF p.toList = [])
theorem hit_cases (p : ByteArray) (w : World) (hp : p.size ≤ 9223372036854775807) : ∃ (nm tb td : ByteArray) (ends : Bool),
    Calls Tryz.prog 105 #[.string p, .string ⟨#[59]⟩] w (fun e w' => e = .returned (.tuple #[.string nm, .bool ends]) ∧ w = w') ∧
    Calls Tryz.prog 106 #[.string nm] w (fun e w' => e = .returned (.string tb) ∧ w = w') ∧
    Calls Tryz.prog 107 #[.string nm] w (fun e w' => e = .returned (.string td) ∧ w = w') ∧ HitHow p tb td ends := by
  refine ⟨cutS p, _, _, cutB p, cut_any p w hp, bare_any (cutS p) w, bound_any (cutS p) w, ?_⟩
  have h := hitF_cut p
  unfold HitHow
  rw [toList_strB, toList_strB]
  by_cases h1 : look bareT (cutS p).toList = []
  · rw [if_neg (by simp [h1])] at h
    cases h2 : cutB p
    · rw [h2] at h
      exact .inr (.inr (.inr ⟨h1, rfl, h⟩))
    · rw [h2, if_pos rfl] at h
      by_cases h3 : look boundT (cutS p).toList = []
      · exact .inr (.inr (.inl ⟨h1, rfl, h3, h.trans h3⟩))
      · exact .inr (.inl ⟨h1, rfl, h3, h⟩)
  · rw [if_pos h1] at h
    exact .inl ⟨h1, h⟩
theorem ne_empty {s : ByteArray} (h : s.toList ≠ []) : s.toList.isEmpty = false := by
  cases hs : s.toList with
  | nil => exact absurd hs h
  | cons c r => rfl
theorem is_empty {s : ByteArray} (h : s.toList = []) : s.toList.isEmpty = true := by rw [h]; rfl

set_option maxHeartbeats 1000000 in
theorem Find_any (s : ByteArray) (w : World) (hs : s.size ≤ 9223372036854775807) : Calls Tryz.prog 86 #[.string s] w fun e w' => e = .returned (.tuple #[.string (strB (findF s.toList).1), .int .i64 (findF s.toList).2]) ∧ w = w' := by
  have HP : Hid (findF s.toList = findUp s.toList (min s.size 14)) := by show _ = _; rw [findF, size_toList]
  have h0 : ((min s.size 14 : Nat) : Int) = min (s.size : Int) 14 := by omega
  have H0 := Lib.hid h0
  clear h0
  go_enter Tryz.func86, Tryz.ntmps86
  go_wp2_with fail
  go_loop [4] (fun i => ∃ k : Nat, k ≤ s.size ∧ k ≤ 14 ∧ i = .int .i64 k ∧ findF s.toList = findUp s.toList k) (fun i => (intOf i).toNat)
  case atStart => exact ⟨min s.size 14, by omega, by omega, by first | rfl | (rw [H0.out]) | (congr 1; exact H0.out.symm), HP.out⟩
  case round =>
    obtain ⟨k, hk, hk2, rfl, hv⟩ := hrel
    have HV := Lib.hid hv
    clear hv
    cases k with
    | zero =>
      go_wp2_with fail
      go_ret2
      exact ⟨ret2_str (by rw [HV.out]; rfl) (by rw [HV.out]; rfl), rfl⟩
    | succ j =>
      have hsz : (s.extract 0 (j + 1)).size ≤ 9223372036854775807 := by rw [ByteArray.size_extract]; omega
      have hpl : (s.extract 0 (j + 1)).toList = s.toList.take (j + 1) := by rw [ext_list, List.drop_zero, Nat.sub_zero]
      obtain ⟨nm, tb, td, ends, hc, hb, hd, hh⟩ := hit_cases (s.extract 0 (j + 1)) w hsz
      have HC := Lib.hid hc
      have HB := Lib.hid hb
      have HD := Lib.hid hd
      have HPL := Lib.hid hpl
      clear hc hb hd hpl
      rcases hh with ⟨h1, h2⟩ | ⟨h1, rfl, h3, h2⟩ | ⟨h1, rfl, h3, h2⟩ | ⟨h1, rfl, h2⟩
      · have HH := Lib.hid h2
        have HN := Lib.hid h1
        have h1' := ne_empty h1
        clear h2
        go_wp2_with (first
          | (go_at_call 105; go_must (refine HC.out.mono ?_; rintro e w1 ⟨rfl, rfl⟩))
          | (go_at_call 106; go_must (refine HB.out.mono ?_; rintro e w1 ⟨rfl, rfl⟩)))
        go_ret2
        exact ⟨ret2_str (by rw [HV.out, findUp_hit HPL.out HH.out HN.out]; exact (strB_mem _).symm) (by rw [HV.out, findUp_hit HPL.out HH.out HN.out]; rfl), rfl⟩
      · have HH := Lib.hid h2
        have HN := Lib.hid h3
        have h1' := is_empty h1
        have h3' := ne_empty h3
        clear h2
        go_wp2_with (first
          | (go_at_call 105; go_must (refine HC.out.mono ?_; rintro e w1 ⟨rfl, rfl⟩))
          | (go_at_call 106; go_must (refine HB.out.mono ?_; rintro e w1 ⟨rfl, rfl⟩))
          | (go_at_call 107; go_must (refine HD.out.mono ?_; rintro e w1 ⟨rfl, rfl⟩)))
        go_ret2
        exact ⟨ret2_str (by rw [HV.out, findUp_hit HPL.out HH.out HN.out]; exact (strB_mem _).symm) (by rw [HV.out, findUp_hit HPL.out HH.out HN.out]; rfl), rfl⟩
      · have HH := Lib.hid h2
        have h1' := is_empty h1
        have h3' := is_empty h3
        clear h2
        go_wp2_with (first
          | (go_at_call 105; go_must (refine HC.out.mono ?_; rintro e w1 ⟨rfl, rfl⟩))
          | (go_at_call 106; go_must (refine HB.out.mono ?_; rintro e w1 ⟨rfl, rfl⟩))
          | (go_at_call 107; go_must (refine HD.out.mono ?_; rintro e w1 ⟨rfl, rfl⟩)))
        go_round
        case rel => exact ⟨j, by omega, by omega, rfl, by rw [HV.out, findUp_next HPL.out HH.out]⟩
        case measure => simp [intOf]
      · have HH := Lib.hid h2
        have h1' := is_empty h1
        clear h2
        go_wp2_with (first
          | (go_at_call 105; go_must (refine HC.out.mono ?_; rintro e w1 ⟨rfl, rfl⟩))
          | (go_at_call 106; go_must (refine HB.out.mono ?_; rintro e w1 ⟨rfl, rfl⟩))
          | (go_at_call 107; go_must (refine HD.out.mono ?_; rintro e w1 ⟨rfl, rfl⟩)))
        go_round
        case rel => exact ⟨j, by omega, by omega, rfl, by rw [HV.out, findUp_next HPL.out HH.out]⟩
        case measure => simp [intOf]
end Go.Proofs.YtbabcohidpcjjaaGreat

/-
  Contracts: colanderref09.Small, refs.value, colanderref12.digit: what a digit says.
-/
namespace Go.Proofs.YtbabcohidpcjjaaGreat
open Go.RowKit Mem

def smallI (n : Int) : Int := if 65 ≤ n ∧ n ≤ 90 then n + 32 else n
theorem Small_any (n : Int) (w : World) (h0 : 0 ≤ n) (h1 : n ≤ 255) :
    Calls Tryz.prog 55 #[.int .u8 n] w fun e w' => e = .returned (.int .u8 (smallI n)) ∧ w = w' := by
  go_enter Tryz.func55, Tryz.ntmps55
  go_wp2
  all_goals go_ret
  all_goals refine ⟨ret_int ?_, rfl⟩
  all_goals (unfold smallI; split <;> omega)

theorem ret_vb {x : Int} {d b : Nat} (h : x = d) : Ending.returned (.tuple #[.int .i64 x, .bool (decide (x < (b : Int)))]) = .returned (.tuple #[.int .i64 d, .bool (decide (d < b))]) := by
  subst h
  simp
theorem value_any (n b : Nat) (hn : n < 256) (w : World) : Calls Tryz.prog 102 #[.int .u8 n, .int .i64 b] w fun e w' => e = .returned (.tuple #[.int .i64 (digV n), .bool (decide (digV n < b))]) ∧ w = w' := by
  have HV : Hid (digV n = if 48 ≤ n ∧ n ≤ 57 then n - 48 else if 97 ≤ n ∧ n ≤ 102 then n - 97 + 10 else if 65 ≤ n ∧ n ≤ 70 then n - 65 + 10 else 99) := by show _ = _; rfl
  go_enter Tryz.func102, Tryz.ntmps102
  go_wp2_with fail
  all_goals go_ret2
  all_goals exact ⟨ret_vb (by have h := HV.out; clear HV; (repeat' split at h) <;> omega), rfl⟩
def hexL : List Nat := [48, 49, 50, 51, 52, 53, 54, 55, 56, 57, 97, 98, 99, 100, 101, 102]
theorem hex_index : ∀ k : Nat, k < 16 → ∀ w, (Instr.index 9 (.string ⟨#[48, 49, 50, 51, 52, 53, 54, 55, 56, 57, 97, 98, 99, 100, 101, 102]⟩) (.int .i64 (k : Nat))).run Tryz.prog w = .ok (.int .u8 (hexL.getD k 0 : Nat)) w
  | 0, _ => fun _ => by kernel_rfl
  | 1, _ => fun _ => by kernel_rfl
  | 2, _ => fun _ => by kernel_rfl
  | 3, _ => fun _ => by kernel_rfl
  | 4, _ => fun _ => by kernel_rfl
  | 5, _ => fun _ => by kernel_rfl
  | 6, _ => fun _ => by kernel_rfl
  | 7, _ => fun _ => by kernel_rfl
  | 8, _ => fun _ => by kernel_rfl
  | 9, _ => fun _ => by kernel_rfl
  | 10, _ => fun _ => by kernel_rfl
  | 11, _ => fun _ => by kernel_rfl
  | 12, _ => fun _ => by kernel_rfl
  | 13, _ => fun _ => by kernel_rfl
  | 14, _ => fun _ => by kernel_rfl
  | 15, _ => fun _ => by kernel_rfl
  | n + 16, h => absurd h (by omega)
def smallN (n : Nat) : Nat := if 65 ≤ n ∧ n ≤ 90 then n + 32 else n
theorem smallI_nat (n : Nat) : smallI n = (smallN n : Nat) := by unfold smallI smallN; split <;> split <;> omega
theorem hex_hit (n k : Nat) (hn : n < 256) (hk : k < 16) : (smallI n == ((hexL.getD k 0 : Nat) : Int)) = decide (digV n = k) := by
  have h : ((List.range 256).all fun n => (List.range 16).all fun k => (smallN n == hexL.getD k 0) == decide (digV n = k)) = true := by decide +kernel
  have h1 := List.all_eq_true.1 (List.all_eq_true.1 h n (List.mem_range.2 hn)) k (List.mem_range.2 hk)
  rw [smallI_nat, ← beq_iff_eq.1 h1, Bool.eq_iff_iff]
  simp only [beq_iff_eq]
  omega
def digI (n b : Nat) : Int := if digV n < b then (digV n : Int) else -1
theorem digit_any (n b : Nat) (hn : n < 256) (hb : b ≤ 16) (w : World) : Calls Tryz.prog 70 #[.int .u8 n, .int .i64 b] w fun e w' => e = .returned (.int .i64 (digI n b)) ∧ Below w.heap.size w w' := by
  have HS := Lib.hid (fun u => Small_any n u (by omega) (by omega))
  go_enter Tryz.func70, Tryz.ntmps70
  go_wp2_with fail
  go_loopw [6] (fun i wr => ∃ k : Nat, k ≤ b ∧ i = .int .i64 k ∧ (∀ j, j < k → digV n ≠ j) ∧ Below w.heap.size w wr) (fun i _ => b - (intOf i).toNat)
  case atStart => exact ⟨0, Nat.zero_le _, rfl, fun j hj => absurd hj (Nat.not_lt_zero j), Below.refl _ _⟩
  case round =>
    obtain ⟨k, hk, rfl, hv, hb⟩ := hrel
    have HV := Lib.hid hv
    have HB := Lib.hid hb
    clear hv hb
    by_cases hlt : k < b
    · have hk16 : k < 16 := by omega
      have hix := hex_index k hk16
      have hh := hex_hit n k hn hk16
      generalize smallI (n : Int) = sv at *
      generalize hexL.getD k 0 = hv at *
      by_cases he : digV n = k
      · rw [decide_eq_true he] at hh
        have HE := Lib.hid he
        clear he
        go_wp2_with fail
        refine wp_region_calm (by kernel_rfl) (by kernel_rfl) ?_
        repeat
          with_reducible refine wpQuiet_step (fun K hK => ?_)
          first
            | (with_reducible apply calm_skip
               · rfl
               simp only [Act.put, List.setIfInBounds_toArray, List.set_cons_zero, List.set_cons_succ]
               refine hK _ ?_
               clear hK K)
            | (with_reducible apply calm_run
               · rfl
               · intro wq hC
                 unfold Oper.quietAt
                 go_simp
                 first | done | (go_at_call 55; go_must (refine (HS.out _).mono ?_; rintro e wx ⟨rfl, rfl⟩; exact ⟨rfl, hC⟩)) | with_reducible rfl | rfl
               simp only [Act.put, List.setIfInBounds_toArray, List.set_cons_zero, List.set_cons_succ]
               refine hK _ ?_
               clear hK K)
        with_reducible refine wpQuiet_nil ?_
        intro wq HQ
        go_wp2_with fail
        go_ret
        exact ⟨ret_int (by rw [digI, if_pos (by rw [HE.out]; exact hlt), HE.out]), belowCall HB.out HQ.out⟩
      · rw [decide_eq_false he] at hh
        have HE := Lib.hid he
        clear he
        go_wp2_with fail
        refine wp_region_calm (by kernel_rfl) (by kernel_rfl) ?_
        repeat
          with_reducible refine wpQuiet_step (fun K hK => ?_)
          first
            | (with_reducible apply calm_skip
               · rfl
               simp only [Act.put, List.setIfInBounds_toArray, List.set_cons_zero, List.set_cons_succ]
               refine hK _ ?_
               clear hK K)
            | (with_reducible apply calm_run
               · rfl
               · intro wq hC
                 unfold Oper.quietAt
                 go_simp
                 first | done | (go_at_call 55; go_must (refine (HS.out _).mono ?_; rintro e wx ⟨rfl, rfl⟩; exact ⟨rfl, hC⟩)) | with_reducible rfl | rfl
               simp only [Act.put, List.setIfInBounds_toArray, List.set_cons_zero, List.set_cons_succ]
               refine hK _ ?_
               clear hK K)
        with_reducible refine wpQuiet_nil ?_
        intro wq HQ
        go_wp2_with fail
        go_roundw
        case rel => exact ⟨k + 1, by omega, by go_num, fun j hj => by rcases Nat.lt_or_ge j k with h | h; exact HV.out j h; (have : j = k := by omega); rw [this]; exact HE.out, belowCall HB.out HQ.out⟩
        case measure => simp [intOf]; omega
    · go_wp2_with fail
      go_ret
      exact ⟨ret_int (by rw [digI, if_neg]; intro h; exact HV.out (digV n) (by omega) rfl), HB.out⟩
end Go.Proofs.YtbabcohidpcjjaaGreat

/-
  Contract: refs.number: what the digits behind &# say.
-/
namespace Go.Proofs.YtbabcohidpcjjaaGreat
open Go.RowKit Mem

theorem int_eq {k : IntKind} {a b : Int} (h : a = b) : Value.int k a = .int k b := by rw [h]
theorem digsF_go {b f v : Nat} {c : UInt8} {r : Str} (h : digV c.toNat < b) : digsF b (f + 1) (c :: r) v = ((digsF b f r (min (v * b + digV c.toNat) 0x110000)).1 + 1, (digsF b f r (min (v * b + digV c.toNat) 0x110000)).2) := by
  have : digF b c = some (digV c.toNat) := by rw [digF, if_pos h]
  rw [digsF, this]
theorem digsF_break {b f v : Nat} {c : UInt8} {r : Str} (h : ¬ digV c.toNat < b) : digsF b (f + 1) (c :: r) v = (0, v) := by
  have : digF b c = none := by rw [digF, if_neg h]
  rw [digsF, this]
theorem digsF_fuel {b v : Nat} {r : Str} : digsF b 0 r v = (0, v) := by rw [digsF]
theorem digsF_nil {b f v : Nat} : digsF b f [] v = (0, v) := by cases f <;> rfl
theorem drop_byte (s : ByteArray) (p : Nat) (h : p < s.size) : s.toList.drop p = s[p] :: s.toList.drop (p + 1) := by
  have h' : p < s.toList.length := by rw [size_toList]; exact h
  rw [List.drop_eq_getElem_cons h']
  congr 1
  simp only [ByteArray.toList_eq]
  rfl
theorem xB_byte (s : ByteArray) (h : 0 < s.size) : xB s.toList = (s[0] == 120 || s[0] == 88) := by
  have := drop_byte s 0 h
  rw [List.drop_zero] at this
  rw [this]; rfl
theorem xB_empty {s : ByteArray} (h : ¬ 0 < s.size) : xB s.toList = false := by
  have : s.toList = [] := List.eq_nil_of_length_eq_zero (by rw [size_toList]; omega)
  rw [this]; rfl
theorem head_x {s : Str} (h : xB s = true) : headN s = 1 ∧ numG s = digsF 16 16 (s.drop 1) 0 := by unfold numG headN baseN; simp [h]
theorem head_n {s : Str} (h : xB s = false) : headN s = 0 ∧ numG s = digsF 10 16 (s.drop 0) 0 := by unfold numG headN baseN; simp [h]
theorem ret_num {s : Str} {p f v : Nat} {b : Bool} (hh : headN s = f) (hg : numG s = ((p - f) + 0, v)) (hp : f ≤ p) (hb : b = decide ((f : Int) < (p : Int))) :
    Ending.returned (.tuple #[.int .i64 p, .int .i64 v, .bool b]) = .returned (.tuple #[.int .i64 (numN s), .int .i64 (numG s).2, .bool (decide (0 < (numG s).1))]) := by
  have h1 : numN s = p := by unfold numN; rw [hh, hg]; show f + (p - f + 0) = p; omega
  have h2 : decide ((f : Int) < (p : Int)) = decide (0 < p - f + 0) := decide_eq_decide.2 (by omega)
  rw [h1, hg, hb, h2]
theorem byte_ne {b c : UInt8} (h : b ≠ c) : ((b.toNat : Int) == (c.toNat : Int)) = false := by
  rw [beq_eq_false_iff_ne]
  intro e
  exact h (UInt8.toNat_inj.1 (by omega))
set_option maxHeartbeats 2000000 in
theorem number_any (s : ByteArray) (w : World) (hs : s.size ≤ 9223372036854775807) : Calls Tryz.prog 83 #[.string s] w fun e w' => e = .returned (.tuple #[.int .i64 (numN s.toList), .int .i64 (numG s.toList).2, .bool (decide (0 < (numG s.toList).1))]) ∧ w = w' := by
  by_cases h0 : 0 < s.size
  · have hne := ne_empty (s := s) (by intro h; have := size_toList s; rw [h] at this; simp at this; omega)
    have hxB := xB_byte s h0
    by_cases hx : s[0] = 120
    · obtain ⟨hh, hg⟩ := head_x (s := s.toList) (by rw [hxB, hx]; rfl)
      have HH := Lib.hid hh
      have HG := Lib.hid hg
      clear hh hg hxB
      go_enter Tryz.func83, Tryz.ntmps83
      go_wp2_with fail
      go_loop [5, 8] (fun i n => ∃ p v : Nat, 1 ≤ p ∧ p ≤ 17 ∧ p ≤ s.size ∧ v ≤ 1114112 ∧ i = .int .i64 p ∧ n = .int .i64 v ∧ numG s.toList = ((p - 1) + (digsF 16 (17 - p) (s.toList.drop p) v).1, (digsF 16 (17 - p) (s.toList.drop p) v).2)) (fun i _ => s.size - (intOf i).toNat)
      case atStart => exact ⟨1, 0, by omega, by omega, by omega, by omega, rfl, rfl, by rw [HG.out, Nat.sub_self, Nat.zero_add]⟩
      case round =>
        obtain ⟨p, v, hp0, hp1, hp2, hv, rfl, rfl, hg⟩ := hrel
        have HR := Lib.hid hg
        clear hg
        by_cases hlt : p < s.size
        · by_cases hlf : p < 17
          · have hu := s[p].toNat_lt
            have hdr := drop_byte s p hlt
            have hfu : 17 - p = (16 - p) + 1 := by omega
            rw [hfu, hdr] at HR
            have hval : Calls Tryz.prog 102 #[.int .u8 (s[p].toNat : Nat), .int .i64 16] w _ := value_any s[p].toNat 16 (by omega) w
            by_cases hd : digV s[p].toNat < 16
            · have hg := digsF_go (f := 16 - p) (r := s.toList.drop (p + 1)) (v := v) hd
              rw [hg] at HR
              obtain ⟨d, hdd⟩ : ∃ d, d = digV s[p].toNat := ⟨_, rfl⟩
              rw [← hdd] at HR hval hd
              rw [decide_eq_true hd] at hval
              have HV := Lib.hid hval
              clear hval hg hdr hfu hdd
              go_wp2_with (go_at_call 102; go_must (refine HV.out.mono ?_; rintro e w1 ⟨rfl, rfl⟩))
              go_round
              case rel => exact ⟨p + 1, min (v * 16 + d) 1114112, by omega, by omega, by omega, by omega, by go_num, int_eq (by omega), by rw [HR.out, show 17 - (p + 1) = 16 - p from by omega, show p + 1 - 1 = p - 1 + 1 from by omega]; exact Prod.ext (by show _ + (_ + 1) = _ + 1 + _; omega) rfl⟩
              case measure => simp [intOf]; omega
            · have hg := digsF_break (f := 16 - p) (r := s.toList.drop (p + 1)) (v := v) hd
              rw [hg] at HR
              rw [decide_eq_false hd] at hval
              have HV := Lib.hid hval
              clear hval hg hdr hfu hd
              go_wp2_with (go_at_call 102; go_must (refine HV.out.mono ?_; rintro e w1 ⟨rfl, rfl⟩))
              go_ret3
              exact ⟨ret_num HH.out HR.out hp0 (decide_eq_decide.2 (by omega)), rfl⟩
          · have hfu : 17 - p = 0 := by omega
            rw [hfu, digsF_fuel] at HR
            clear hfu
            go_wp2_with fail
            go_ret3
            exact ⟨ret_num HH.out HR.out hp0 (decide_eq_decide.2 (by omega)), rfl⟩
        · have hdr : s.toList.drop p = [] := List.drop_of_length_le (by rw [size_toList]; omega)
          rw [hdr, digsF_nil] at HR
          clear hdr
          go_wp2_with fail
          go_ret3
          exact ⟨ret_num HH.out HR.out hp0 (decide_eq_decide.2 (by omega)), rfl⟩
    · by_cases hX : s[0] = 88
      · obtain ⟨hh, hg⟩ := head_x (s := s.toList) (by rw [hxB, hX]; rfl)
        have HH := Lib.hid hh
        have HG := Lib.hid hg
        clear hh hg hxB hx
        go_enter Tryz.func83, Tryz.ntmps83
        go_wp2_with fail
        go_loop [5, 8] (fun i n => ∃ p v : Nat, 1 ≤ p ∧ p ≤ 17 ∧ p ≤ s.size ∧ v ≤ 1114112 ∧ i = .int .i64 p ∧ n = .int .i64 v ∧ numG s.toList = ((p - 1) + (digsF 16 (17 - p) (s.toList.drop p) v).1, (digsF 16 (17 - p) (s.toList.drop p) v).2)) (fun i _ => s.size - (intOf i).toNat)
        case atStart => exact ⟨1, 0, by omega, by omega, by omega, by omega, rfl, rfl, by rw [HG.out, Nat.sub_self, Nat.zero_add]⟩
        case round =>
          obtain ⟨p, v, hp0, hp1, hp2, hv, rfl, rfl, hg⟩ := hrel
          have HR := Lib.hid hg
          clear hg
          by_cases hlt : p < s.size
          · by_cases hlf : p < 17
            · have hu := s[p].toNat_lt
              have hdr := drop_byte s p hlt
              have hfu : 17 - p = (16 - p) + 1 := by omega
              rw [hfu, hdr] at HR
              have hval : Calls Tryz.prog 102 #[.int .u8 (s[p].toNat : Nat), .int .i64 16] w _ := value_any s[p].toNat 16 (by omega) w
              by_cases hd : digV s[p].toNat < 16
              · have hg := digsF_go (f := 16 - p) (r := s.toList.drop (p + 1)) (v := v) hd
                rw [hg] at HR
                obtain ⟨d, hdd⟩ : ∃ d, d = digV s[p].toNat := ⟨_, rfl⟩
                rw [← hdd] at HR hval hd
                rw [decide_eq_true hd] at hval
                have HV := Lib.hid hval
                clear hval hg hdr hfu hdd
                go_wp2_with (go_at_call 102; go_must (refine HV.out.mono ?_; rintro e w1 ⟨rfl, rfl⟩))
                go_round
                case rel => exact ⟨p + 1, min (v * 16 + d) 1114112, by omega, by omega, by omega, by omega, by go_num, int_eq (by omega), by rw [HR.out, show 17 - (p + 1) = 16 - p from by omega, show p + 1 - 1 = p - 1 + 1 from by omega]; exact Prod.ext (by show _ + (_ + 1) = _ + 1 + _; omega) rfl⟩
                case measure => simp [intOf]; omega
              · have hg := digsF_break (f := 16 - p) (r := s.toList.drop (p + 1)) (v := v) hd
                rw [hg] at HR
                rw [decide_eq_false hd] at hval
                have HV := Lib.hid hval
                clear hval hg hdr hfu hd
                go_wp2_with (go_at_call 102; go_must (refine HV.out.mono ?_; rintro e w1 ⟨rfl, rfl⟩))
                go_ret3
                exact ⟨ret_num HH.out HR.out hp0 (decide_eq_decide.2 (by omega)), rfl⟩
            · have hfu : 17 - p = 0 := by omega
              rw [hfu, digsF_fuel] at HR
              clear hfu
              go_wp2_with fail
              go_ret3
              exact ⟨ret_num HH.out HR.out hp0 (decide_eq_decide.2 (by omega)), rfl⟩
          · have hdr : s.toList.drop p = [] := List.drop_of_length_le (by rw [size_toList]; omega)
            rw [hdr, digsF_nil] at HR
            clear hdr
            go_wp2_with fail
            go_ret3
            exact ⟨ret_num HH.out HR.out hp0 (decide_eq_decide.2 (by omega)), rfl⟩
      · obtain ⟨hh, hg⟩ := head_n (s := s.toList) (by rw [hxB]; simp [hx, hX])
        have HH := Lib.hid hh
        have HG := Lib.hid hg
        have hx' : ((s[0].toNat : Int) == 120) = false := byte_ne hx
        have hX' : ((s[0].toNat : Int) == 88) = false := byte_ne hX
        clear hh hg hxB hx hX
        go_enter Tryz.func83, Tryz.ntmps83
        go_wp2_with fail
        go_loop [5, 8] (fun i n => ∃ p v : Nat, 0 ≤ p ∧ p ≤ 16 ∧ p ≤ s.size ∧ v ≤ 1114112 ∧ i = .int .i64 p ∧ n = .int .i64 v ∧ numG s.toList = ((p - 0) + (digsF 10 (16 - p) (s.toList.drop p) v).1, (digsF 10 (16 - p) (s.toList.drop p) v).2)) (fun i _ => s.size - (intOf i).toNat)
        case atStart => exact ⟨0, 0, by omega, by omega, by omega, by omega, rfl, rfl, by rw [HG.out, Nat.sub_self, Nat.zero_add]⟩
        case round =>
          obtain ⟨p, v, hp0, hp1, hp2, hv, rfl, rfl, hg⟩ := hrel
          have HR := Lib.hid hg
          clear hg
          by_cases hlt : p < s.size
          · by_cases hlf : p < 16
            · have hu := s[p].toNat_lt
              have hdr := drop_byte s p hlt
              have hfu : 16 - p = (15 - p) + 1 := by omega
              rw [hfu, hdr] at HR
              have hval : Calls Tryz.prog 102 #[.int .u8 (s[p].toNat : Nat), .int .i64 10] w _ := value_any s[p].toNat 10 (by omega) w
              by_cases hd : digV s[p].toNat < 10
              · have hg := digsF_go (f := 15 - p) (r := s.toList.drop (p + 1)) (v := v) hd
                rw [hg] at HR
                obtain ⟨d, hdd⟩ : ∃ d, d = digV s[p].toNat := ⟨_, rfl⟩
                rw [← hdd] at HR hval hd
                rw [decide_eq_true hd] at hval
                have HV := Lib.hid hval
                clear hval hg hdr hfu hdd
                go_wp2_with (go_at_call 102; go_must (refine HV.out.mono ?_; rintro e w1 ⟨rfl, rfl⟩))
                go_round
                case rel => exact ⟨p + 1, min (v * 10 + d) 1114112, by omega, by omega, by omega, by omega, by go_num, int_eq (by omega), by rw [HR.out, show 16 - (p + 1) = 15 - p from by omega, show p + 1 - 0 = p - 0 + 1 from by omega]; exact Prod.ext (by show _ + (_ + 1) = _ + 1 + _; omega) rfl⟩
                case measure => simp [intOf]; omega
              · have hg := digsF_break (f := 15 - p) (r := s.toList.drop (p + 1)) (v := v) hd
                rw [hg] at HR
                rw [decide_eq_false hd] at hval
                have HV := Lib.hid hval
                clear hval hg hdr hfu hd
                go_wp2_with (go_at_call 102; go_must (refine HV.out.mono ?_; rintro e w1 ⟨rfl, rfl⟩))
                go_ret3
                exact ⟨ret_num HH.out HR.out hp0 (decide_eq_decide.2 (by omega)), rfl⟩
            · have hfu : 16 - p = 0 := by omega
              rw [hfu, digsF_fuel] at HR
              clear hfu
              go_wp2_with fail
              go_ret3
              exact ⟨ret_num HH.out HR.out hp0 (decide_eq_decide.2 (by omega)), rfl⟩
          · have hdr : s.toList.drop p = [] := List.drop_of_length_le (by rw [size_toList]; omega)
            rw [hdr, digsF_nil] at HR
            clear hdr
            go_wp2_with fail
            go_ret3
            exact ⟨ret_num HH.out HR.out hp0 (decide_eq_decide.2 (by omega)), rfl⟩
  · obtain ⟨hh, hg⟩ := head_n (xB_empty h0)
    have HH := Lib.hid hh
    have HG := Lib.hid hg
    have hem : s.toList.isEmpty = true := is_empty (List.eq_nil_of_length_eq_zero (by rw [size_toList]; omega))
    clear hh hg
    go_enter Tryz.func83, Tryz.ntmps83
    go_wp2_with fail
    go_loop [5, 8] (fun i n => ∃ p v : Nat, 0 ≤ p ∧ p ≤ 16 ∧ p ≤ s.size ∧ v ≤ 1114112 ∧ i = .int .i64 p ∧ n = .int .i64 v ∧ numG s.toList = ((p - 0) + (digsF 10 (16 - p) (s.toList.drop p) v).1, (digsF 10 (16 - p) (s.toList.drop p) v).2)) (fun i _ => s.size - (intOf i).toNat)
    case atStart => exact ⟨0, 0, by omega, by omega, by omega, by omega, rfl, rfl, by rw [HG.out, Nat.sub_self, Nat.zero_add]⟩
    case round =>
      obtain ⟨p, v, hp0, hp1, hp2, hv, rfl, rfl, hg⟩ := hrel
      have HR := Lib.hid hg
      clear hg
      have hlt : ¬ p < s.size := by omega
      have hdr : s.toList.drop p = [] := List.drop_of_length_le (by rw [size_toList]; omega)
      rw [hdr, digsF_nil] at HR
      clear hdr
      go_wp2_with fail
      go_ret3
      exact ⟨ret_num HH.out HR.out hp0 (decide_eq_decide.2 (by omega)), rfl⟩
end Go.Proofs.YtbabcohidpcjjaaGreat
