/-
  The walk of MarksLimit: it returns true.
-/
import Derived.Test.YtbabcohidpcjjaaMkLn
import Derived.Test.YtbabcohidpcjjaaMkPlt
namespace Go.Proofs.Ytbabcohidpcjjaa
open Go.RowKit Mem

/-! plain: a tag as long as need be -/
def limP (e : Bool) : Str := ltT e ++ [97, 32, 98, 61, 34]
def limT (e : Bool) (n : Nat) : Str := limP e ++ List.replicate n 99
def limN (e : Bool) : Nat := if e then 7 else 6
theorem limP_len (e : Bool) : (limP e).length = limN e := by cases e <;> rfl
theorem limT_len (e : Bool) (n : Nat) : (limT e n).length = n + limN e := by
  unfold limT; rw [List.length_append, limP_len, List.length_replicate]; omega
theorem nameA : Name [97] := ⟨by decide, by decide⟩
theorem nameB : Name [98] := ⟨by decide, by decide⟩
theorem limT_eq (e : Bool) (n : Nat) (r : Str) : limT e n ++ r = ltT e ++ ([97] ++ 32 :: ([98] ++ 61 :: 34 :: (List.replicate n 99 ++ r))) := by
  unfold limT limP
  simp
theorem rep_no (n : Nat) : ∀ c ∈ List.replicate n (99 : UInt8), c ≠ 34 := fun c hc => by
  rw [(List.mem_replicate.1 hc).2]; decide
theorem limT_take (e : Bool) (n : Nat) : (limT e n).take 2049 = limT e (min (2049 - limN e) n) := by
  have hk : limN e ≤ 7 := by unfold limN; split <;> omega
  unfold limT
  rw [List.take_append, List.take_of_length_le (by rw [limP_len]; omega), limP_len, List.take_replicate]
theorem limT_open (e : Bool) (n : Nat) : parseF (limT e n) e = (bareM 0, -1, 0) := by
  have := parseF_open (e := e) nameA nameB (rep_no n)
  have h := limT_eq e n []
  rw [List.append_nil, List.append_nil] at h
  rw [h]
  exact this
structure Front (f : Str) : Prop where
  ok : ∀ c ∈ f, (c ≠ 60 ∧ c ≠ 38) ∧ c ≠ 13 ∧ c ≠ 0
theorem limT_ok (e : Bool) (n : Nat) : ∀ c ∈ limT e n, c ≠ 13 ∧ c ≠ 0 := fun c hc => by
  rcases List.mem_append.1 hc with hc | hc
  · exact (by cases e <;> decide : ∀ c ∈ limP e, c ≠ 13 ∧ c ≠ 0) c hc
  · rw [(List.mem_replicate.1 hc).2]; decide
theorem lim_open {f : Str} (hf : Front f) (e : Bool) (n : Nat) : marksF (f ++ limT e n) = if 2048 < (limT e n).length then ([], 41) else (txF f, 0) := by
  have ho : ∀ c ∈ f ++ limT e n, c ≠ 13 ∧ c ≠ 0 := fun c hc => (List.mem_append.1 hc).elim (fun h => (hf.ok c h).2) (limT_ok e n c)
  have hq := limT_eq e n []
  rw [List.append_nil] at hq
  obtain ⟨m1, m2, -, -⟩ := marks_tag (f := f) (T := limT e n) (e := e) (fun c hc => (hf.ok c hc).1) (c := 97) (r := 32 :: ([98] ++ 61 :: 34 :: (List.replicate n 99 ++ []))) (by decide) hq ho
  rw [limT_take, limT_open] at m1 m2
  split
  · rename_i h
    exact m1 (.inr ⟨by decide, h⟩)
  · rename_i h
    exact m2 (by decide) rfl (by omega)
theorem lim_shut {f : Str} (hf : Front f) (e : Bool) (n : Nat) : ∃ x : MarkD, x.kind ≠ 1 ∧ x.name = [97] ∧ marksF (f ++ (limT e n ++ [34, 62])) = if 2048 < (limT e n).length + 2 then ([], 41) else (txF f ++ [x], 0) := by
  have ho : ∀ c ∈ f ++ (limT e n ++ [34, 62]), c ≠ 13 ∧ c ≠ 0 := fun c hc => (List.mem_append.1 hc).elim (fun h => (hf.ok c h).2) (fun h => (List.mem_append.1 h).elim (limT_ok e n c) (fun h => (by decide : ∀ c ∈ ([34, 62] : Str), c ≠ 13 ∧ c ≠ 0) c h))
  have hq := limT_eq e n [34, 62]
  have hl := limT_len e n
  have hk : limN e ≤ 7 := by unfold limN; split <;> omega
  have hL : (limT e n ++ [34, 62]).length = (limT e n).length + 2 := by rw [List.length_append]; rfl
  obtain ⟨m1, m2, -, m4⟩ := marks_tag (f := f) (T := limT e n ++ [34, 62]) (e := e) (fun c hc => (hf.ok c hc).1) (c := 97) (r := 32 :: ([98] ++ 61 :: 34 :: (List.replicate n 99 ++ [34, 62]))) (by decide) hq ho
  have htag : limT e n ++ [34, 62] = tagT e [97] [([98], List.replicate n 99)] false := by
    rw [hq]
    unfold tagT attsT selfT
    simp
  have hat : Atts [([98], List.replicate n 99)] := ⟨fun a ha => by rw [List.mem_singleton.1 ha]; exact ⟨nameB, rep_no n⟩, List.pairwise_singleton _ _⟩
  have hp := parseF_tag (e := e) (b := false) nameA hat
  rw [← htag] at hp
  by_cases h1 : (limT e n).length + 2 ≤ 2049
  · have ht : (limT e n ++ [34, 62]).take 2049 = limT e n ++ [34, 62] := List.take_of_length_le (by omega)
    rw [ht, hp] at m1 m4
    cases e
    · refine ⟨⟨2, [97], readA [([98], List.replicate n 99)], false, []⟩, (by decide : (2 : Int) ≠ 1), rfl, ?_⟩
      split
      · exact m1 (.inl (by show (2048 : Int) < ((limT false n ++ [34, 62]).length : Nat); omega))
      · exact m4 rfl (by omega) rfl (by show (2 : Int) ≠ 1; decide)
    · refine ⟨⟨3, [97], [], false, []⟩, by decide, rfl, ?_⟩
      split
      · exact m1 (.inl (by show (2048 : Int) < ((limT true n ++ [34, 62]).length : Nat); omega))
      · exact m4 rfl (by omega) rfl (by show (3 : Int) ≠ 1; decide)
  · refine ⟨⟨3, [97], [], false, []⟩, by decide, rfl, ?_⟩
    rw [if_pos (by omega)]
    refine m1 (.inr ⟨?_, by omega⟩)
    by_cases h2 : (limT e n).length + 1 = 2049
    · have ht : (limT e n ++ [34, 62]).take 2049 = limT e n ++ [34] := by
        rw [List.take_append, List.take_of_length_le (by omega), show 2049 - (limT e n).length = 1 from by omega]
        rfl
      rw [ht, limT_eq, parseF_cut nameA nameB (rep_no n)]
      decide
    · rw [List.take_append_of_le_length (by omega), limT_take, limT_open]
      decide
theorem limT_succ (e : Bool) (n : Nat) : strB (limT e n) ++ ⟨#[99]⟩ = strB (limT e (n + 1)) := by
  apply toList_inj
  rw [toList_append', toList_strB, toList_strB]
  unfold limT
  rw [List.replicate_succ', ← List.append_assoc, show (⟨#[99]⟩ : ByteArray).toList = [99] from bytes_list [99]]
def xyzW : Str := [120, 121, 122]
theorem front_xyz (n : Nat) : Front (xyzW.take n) := ⟨fun c hc => by
  have : ∀ c ∈ xyzW, (c ≠ 60 ∧ c ≠ 38) ∧ c ≠ 13 ∧ c ≠ 0 := by decide
  exact this c (List.mem_of_mem_take hc)⟩
theorem one_of {L : MS} {a : MarkD} (h : L.map (·.1) = [a]) : ∃ v, L = [(a, v)] := by
  match L, h with
  | [(x, v)], h =>
    simp only [List.map_cons, List.map_nil, List.cons.injEq, and_true] at h
    exact ⟨v, by rw [h]⟩
theorem two_of {L : MS} {a b : MarkD} (h : L.map (·.1) = [a, b]) : ∃ v u, L = [(a, v), (b, u)] := by
  match L, h with
  | [(x, v), (z, u)], h =>
    simp only [List.map_cons, List.map_nil, List.cons.injEq, and_true] at h
    exact ⟨v, u, by rw [h.1, h.2]⟩
theorem nil_of {L : MS} (h : L.map (·.1) = []) : L = [] := List.map_eq_nil_iff.1 h
set_option maxRecDepth 100000 in
set_option maxHeartbeats 4000000 in
theorem law_MarksLimit (n : Int) (_ : (Lit.int .i64 n).wf = true) (ahead : Int) (_ : (Lit.int .i64 ahead).wf = true) (e : Bool) (y : Int) (w : World) (hm : maxAt w y) :
    Calls Try.prog 7 #[.int .i64 n, .int .i64 ahead, .bool e] w fun r w' => r = .returned (.bool true) ∧ Below w.heap.size w w' := by
  have HM := Lib.hid hm
  obtain ⟨N, hN, hNe⟩ := bits_le n 4095 4095 (by decide) (by decide)
  obtain ⟨F, hF, hFe⟩ := bits_le ahead 3 3 (by decide) (by decide)
  clear hm
  go_enter Try.func7, Try.ntmps7
  go_wp2_with fail
  refine (shown_any y w HM.out).mono ?_
  rintro r W1 ⟨rfl, hb⟩
  have HM1 := Lib.hid (max_below HM.out hb)
  have HB1 := Lib.hid hb
  clear hb HM
  dsimp only
  cases e
  · go_wp2_with fail
    go_loopw [9, 10] (fun v i wr => ∃ k : Nat, k ≤ N ∧ i = .int .i64 k ∧ v = .string (strB (limT false k)) ∧ Below w.heap.size w wr ∧ maxAt wr y) (fun _ i _ => N - (intOf i).toNat)
    case atStart => exact ⟨0, Nat.zero_le _, rfl, rfl, HB1.out, HM1.out⟩
    case round =>
      obtain ⟨k, hk, rfl, rfl, hb, hmr⟩ := hrel
      have HB := Lib.hid hb
      have HMr := Lib.hid hmr
      clear hb hmr
      have hll := limT_len false k
      have hkk : limN false ≤ 7 := by decide
      by_cases hkn : k < N
      · have hno : ¬ 9223372036854775807 < (strB (limT false k)).size + 1 := by rw [strB_size]; omega
        have hcat := limT_succ false k
        clear hll hkk
        go_wp2_with fail
        go_roundw
        case rel => exact ⟨k + 1, by omega, by go_num, rfl, HB.out, HMr.out⟩
        case measure => simp [intOf]; omega
      · obtain rfl : k = N := by omega
        generalize hfs : (⟨#[120, 121, 122]⟩ : ByteArray).extract 0 F = fs at *
        have hfl : fs.toList = xyzW.take F := by
          rw [← hfs, ext_list, show (⟨#[120, 121, 122]⟩ : ByteArray).toList = xyzW from bytes_list xyzW, List.drop_zero, Nat.sub_zero]
        have hfz : fs.size ≤ 3 := by
          rw [← size_toList, hfl, List.length_take]
          show min F 3 ≤ 3
          omega
        have hfr := front_xyz F
        generalize xyzW.take F = f at *
        obtain ⟨T, hT⟩ : ∃ T, T = limT false k := ⟨_, rfl⟩
        have hTl : T.length ≤ 5000 := by rw [hT]; omega
        have hO := lim_open hfr false k
        obtain ⟨x, hx1, hx2, hS⟩ := lim_shut hfr false k
        rw [← hT] at hO hS
        have hA := fun u hu => Marks_all (fs ++ strB T) y u hu (by rw [ByteArray.size_append, strB_size]; omega)
        have hB := fun u hu => Marks_all (fs ++ strB T ++ ⟨#[34, 62]⟩) y u hu (by rw [ByteArray.size_append, ByteArray.size_append, strB_size]; show fs.size + T.length + 2 ≤ _; omega)
        rw [toList_append', hfl, toList_strB] at hA
        rw [toList_append', toList_append', hfl, toList_strB, show (⟨#[34, 62]⟩ : ByteArray).toList = [34, 62] from bytes_list [34, 62], List.append_assoc] at hB
        have hn1 : ¬ 9223372036854775807 < fs.size + (strB T).size := by rw [strB_size]; omega
        have hn2 : ¬ 9223372036854775807 < fs.size + (strB T).size + 2 := by rw [strB_size]; omega
        have hzT : ((strB T).size : Int) = (T.length : Int) := by rw [strB_size]
        have hg := (marksF_ok (f ++ T)).2.1
        have hg' := (marksF_ok (f ++ (T ++ [34, 62]))).2.1
        rw [← hT]
        clear hll hkk hfs hfr hT
        by_cases h1 : 2048 < T.length
        · rw [if_pos h1] at hO
          rw [if_pos (by omega)] at hS
          have hc1 : (2048 : Int) < (T.length : Int) + 2 := by omega
          have hc2 : (2048 : Int) < (T.length : Int) := by omega
          have HA := Lib.hid hA
          have HBB := Lib.hid hB
          have HO := Lib.hid hO
          have HS := Lib.hid hS
          rw [hO] at hg
          rw [hS] at hg'
          have HG := Lib.hid hg
          have HG' := Lib.hid hg'
          clear hA hB hO hS hg hg'
          go_wp2_with fail
          refine (HA.out wr HMr.out).mono ?_
          rintro r W3 ⟨hr, hb3⟩
          rw [HO.out] at hr
          obtain ⟨aa, ca, La, hra, hla, hata, hatsa⟩ := marks_slice hr HG.out
          have HB3 := Lib.hid (belowCall HB.out hb3)
          have HM3 := Lib.hid (max_below HMr.out hb3)
          have HATa := Lib.hid hata
          clear hr hb3 hata hatsa
          subst hra
          dsimp only
          go_wp2_with fail
          refine (HBB.out W3 HM3.out).mono ?_
          rintro r W4 ⟨hr, hb4⟩
          rw [HS.out] at hr
          obtain ⟨ab, cb, Lb, hrb, hlb, hatb, hatsb⟩ := marks_slice hr HG'.out
          have HB4 := Lib.hid (belowCall HB3.out hb4)
          have HATa4 := Lib.hid (HATa.out.below hb4)
          have HATb := Lib.hid hatb
          clear hr hb4 hatb hatsb
          subst hrb
          dsimp only at hla hlb
          dsimp only
          obtain rfl := nil_of hla
          obtain rfl := nil_of hlb
          go_wp2_with fail
          go_ret
          exact ⟨rfl, HB4.out⟩
        · rw [if_neg h1] at hO
          have hc2 : ¬ (2048 : Int) < (T.length : Int) := by omega
          have hfe : Hid (fs = strB f) := toList_inj (by rw [hfl, toList_strB])
          by_cases hf : f = []
          · have hx0 : txF f = [] := by unfold txF; rw [if_pos hf]
            have hem : fs.toList.isEmpty = true ∧ fs.toList = [] := by rw [hfl, hf]; exact ⟨rfl, rfl⟩
            obtain ⟨em1, em2⟩ := hem
            rw [hx0] at hO hS
            clear hx0 hf hfl
            by_cases h2 : 2048 < T.length + 2
            · rw [if_pos h2] at hS
              have hc1 : (2048 : Int) < (T.length : Int) + 2 := by omega
              have HA := Lib.hid hA
              have HBB := Lib.hid hB
              have HO := Lib.hid hO
              have HS := Lib.hid hS
              rw [hO] at hg
              rw [hS] at hg'
              have HG := Lib.hid hg
              have HG' := Lib.hid hg'
              clear hA hB hO hS hg hg'
              go_wp2_with fail
              refine (HA.out wr HMr.out).mono ?_
              rintro r W3 ⟨hr, hb3⟩
              rw [HO.out] at hr
              obtain ⟨aa, ca, La, hra, hla, hata, hatsa⟩ := marks_slice hr HG.out
              have HB3 := Lib.hid (belowCall HB.out hb3)
              have HM3 := Lib.hid (max_below HMr.out hb3)
              have HATa := Lib.hid hata
              clear hr hb3 hata hatsa
              subst hra
              dsimp only
              go_wp2_with fail
              refine (HBB.out W3 HM3.out).mono ?_
              rintro r W4 ⟨hr, hb4⟩
              rw [HS.out] at hr
              obtain ⟨ab, cb, Lb, hrb, hlb, hatb, hatsb⟩ := marks_slice hr HG'.out
              have HB4 := Lib.hid (belowCall HB3.out hb4)
              have HATa4 := Lib.hid (HATa.out.below hb4)
              have HATb := Lib.hid hatb
              clear hr hb4 hatb hatsb
              subst hrb
              dsimp only at hla hlb
              dsimp only
              obtain rfl := nil_of hla
              obtain rfl := nil_of hlb
              go_wp2_with fail
              go_ret
              exact ⟨rfl, HB4.out⟩
            · rw [if_neg h2, List.nil_append] at hS
              have hc1 : ¬ (2048 : Int) < (T.length : Int) + 2 := by omega
              have HA := Lib.hid hA
              have HBB := Lib.hid hB
              have HO := Lib.hid hO
              have HS := Lib.hid hS
              rw [hO] at hg
              rw [hS] at hg'
              have HG := Lib.hid hg
              have HG' := Lib.hid hg'
              clear hA hB hO hS hg hg'
              go_wp2_with fail
              refine (HA.out wr HMr.out).mono ?_
              rintro r W3 ⟨hr, hb3⟩
              rw [HO.out] at hr
              obtain ⟨aa, ca, La, hra, hla, hata, hatsa⟩ := marks_slice hr HG.out
              have HB3 := Lib.hid (belowCall HB.out hb3)
              have HM3 := Lib.hid (max_below HMr.out hb3)
              have HATa := Lib.hid hata
              clear hr hb3 hata hatsa
              subst hra
              dsimp only
              go_wp2_with fail
              refine (HBB.out W3 HM3.out).mono ?_
              rintro r W4 ⟨hr, hb4⟩
              rw [HS.out] at hr
              obtain ⟨ab, cb, Lb, hrb, hlb, hatb, hatsb⟩ := marks_slice hr HG'.out
              have HB4 := Lib.hid (belowCall HB3.out hb4)
              have HATa4 := Lib.hid (HATa.out.below hb4)
              have HATb := Lib.hid hatb
              clear hr hb4 hatb hatsb
              subst hrb
              dsimp only at hla hlb
              dsimp only
              obtain rfl := nil_of hla
              obtain ⟨vb, rfl⟩ := one_of hlb
              obtain ⟨b, oo, rfl, hbw, -, x1, -⟩ := mark_cells HATb.out (k := 0) (by simp)
              have x1' : W4.cell? ⟨b, oo + 1, none⟩ = some (.string ⟨#[97]⟩) := by
                have h : W4.cell? ⟨b, oo + 0 * 5 + 1, none⟩ = some (.string (strB x.name)) := x1
                rw [hx2, Nat.zero_mul, Nat.add_zero] at h
                exact h
              clear x1
              go_wp2_with fail
              go_ret
              exact ⟨rfl, HB4.out⟩
          · have hx0 : txF f = [textM f] := by unfold txF; rw [if_neg hf]
            have hem : fs.toList.isEmpty = false ∧ ¬ fs.toList = [] := by rw [hfl]; exact ⟨by cases f; exact absurd rfl hf; rfl, hf⟩
            obtain ⟨em1, em2⟩ := hem
            rw [hx0] at hO hS
            clear hx0 hf hfl
            by_cases h2 : 2048 < T.length + 2
            · rw [if_pos h2] at hS
              have hc1 : (2048 : Int) < (T.length : Int) + 2 := by omega
              have HA := Lib.hid hA
              have HBB := Lib.hid hB
              have HO := Lib.hid hO
              have HS := Lib.hid hS
              rw [hO] at hg
              rw [hS] at hg'
              have HG := Lib.hid hg
              have HG' := Lib.hid hg'
              clear hA hB hO hS hg hg'
              go_wp2_with fail
              refine (HA.out wr HMr.out).mono ?_
              rintro r W3 ⟨hr, hb3⟩
              rw [HO.out] at hr
              obtain ⟨aa, ca, La, hra, hla, hata, hatsa⟩ := marks_slice hr HG.out
              have HB3 := Lib.hid (belowCall HB.out hb3)
              have HM3 := Lib.hid (max_below HMr.out hb3)
              have HATa := Lib.hid hata
              clear hr hb3 hata hatsa
              subst hra
              dsimp only
              go_wp2_with fail
              refine (HBB.out W3 HM3.out).mono ?_
              rintro r W4 ⟨hr, hb4⟩
              rw [HS.out] at hr
              obtain ⟨ab, cb, Lb, hrb, hlb, hatb, hatsb⟩ := marks_slice hr HG'.out
              have HB4 := Lib.hid (belowCall HB3.out hb4)
              have HATa4 := Lib.hid (HATa.out.below hb4)
              have HATb := Lib.hid hatb
              clear hr hb4 hatb hatsb
              subst hrb
              dsimp only at hla hlb
              dsimp only
              obtain ⟨va, rfl⟩ := one_of hla
              obtain rfl := nil_of hlb
              obtain ⟨bf, of, rfl, hbfw, -, -, -, -, x4⟩ := mark_cells HATa4.out (k := 0) (by simp)
              have x4' : W4.cell? ⟨bf, of + 4, none⟩ = some (.string fs) := by
                have h : W4.cell? ⟨bf, of + 0 * 5 + 4, none⟩ = some (.string (strB f)) := x4
                rw [← hfe.out, Nat.zero_mul, Nat.add_zero] at h
                exact h
              clear x4
              go_wp2_with fail
              go_ret
              exact ⟨rfl, HB4.out⟩
            · rw [if_neg h2] at hS
              have hc1 : ¬ (2048 : Int) < (T.length : Int) + 2 := by omega
              have HA := Lib.hid hA
              have HBB := Lib.hid hB
              have HO := Lib.hid hO
              have HS := Lib.hid hS
              rw [hO] at hg
              rw [hS] at hg'
              have HG := Lib.hid hg
              have HG' := Lib.hid hg'
              clear hA hB hO hS hg hg'
              go_wp2_with fail
              refine (HA.out wr HMr.out).mono ?_
              rintro r W3 ⟨hr, hb3⟩
              rw [HO.out] at hr
              obtain ⟨aa, ca, La, hra, hla, hata, hatsa⟩ := marks_slice hr HG.out
              have HB3 := Lib.hid (belowCall HB.out hb3)
              have HM3 := Lib.hid (max_below HMr.out hb3)
              have HATa := Lib.hid hata
              clear hr hb3 hata hatsa
              subst hra
              dsimp only
              go_wp2_with fail
              refine (HBB.out W3 HM3.out).mono ?_
              rintro r W4 ⟨hr, hb4⟩
              rw [HS.out] at hr
              obtain ⟨ab, cb, Lb, hrb, hlb, hatb, hatsb⟩ := marks_slice hr HG'.out
              have HB4 := Lib.hid (belowCall HB3.out hb4)
              have HATa4 := Lib.hid (HATa.out.below hb4)
              have HATb := Lib.hid hatb
              clear hr hb4 hatb hatsb
              subst hrb
              dsimp only at hla hlb
              dsimp only
              obtain ⟨va, rfl⟩ := one_of hla
              obtain ⟨vb, vb', rfl⟩ := two_of hlb
              obtain ⟨bf, of, rfl, hbfw, -, -, -, -, x4⟩ := mark_cells HATa4.out (k := 0) (by simp)
              have x4' : W4.cell? ⟨bf, of + 4, none⟩ = some (.string fs) := by
                have h : W4.cell? ⟨bf, of + 0 * 5 + 4, none⟩ = some (.string (strB f)) := x4
                rw [← hfe.out, Nat.zero_mul, Nat.add_zero] at h
                exact h
              clear x4
              obtain ⟨b, oo, rfl, hbw, -, x1, -⟩ := mark_cells HATb.out (k := 1) (by simp)
              have x1' : W4.cell? ⟨b, oo + 5 + 1, none⟩ = some (.string ⟨#[97]⟩) := by
                have h : W4.cell? ⟨b, oo + 1 * 5 + 1, none⟩ = some (.string (strB x.name)) := x1
                rw [hx2, Nat.one_mul] at h
                exact h
              clear x1
              go_wp2_with fail
              go_ret
              exact ⟨rfl, HB4.out⟩
  · go_wp2_with fail
    go_loopw [9, 10] (fun v i wr => ∃ k : Nat, k ≤ N ∧ i = .int .i64 k ∧ v = .string (strB (limT true k)) ∧ Below w.heap.size w wr ∧ maxAt wr y) (fun _ i _ => N - (intOf i).toNat)
    case atStart => exact ⟨0, Nat.zero_le _, rfl, rfl, HB1.out, HM1.out⟩
    case round =>
      obtain ⟨k, hk, rfl, rfl, hb, hmr⟩ := hrel
      have HB := Lib.hid hb
      have HMr := Lib.hid hmr
      clear hb hmr
      have hll := limT_len true k
      have hkk : limN true ≤ 7 := by decide
      by_cases hkn : k < N
      · have hno : ¬ 9223372036854775807 < (strB (limT true k)).size + 1 := by rw [strB_size]; omega
        have hcat := limT_succ true k
        clear hll hkk
        go_wp2_with fail
        go_roundw
        case rel => exact ⟨k + 1, by omega, by go_num, rfl, HB.out, HMr.out⟩
        case measure => simp [intOf]; omega
      · obtain rfl : k = N := by omega
        generalize hfs : (⟨#[120, 121, 122]⟩ : ByteArray).extract 0 F = fs at *
        have hfl : fs.toList = xyzW.take F := by
          rw [← hfs, ext_list, show (⟨#[120, 121, 122]⟩ : ByteArray).toList = xyzW from bytes_list xyzW, List.drop_zero, Nat.sub_zero]
        have hfz : fs.size ≤ 3 := by
          rw [← size_toList, hfl, List.length_take]
          show min F 3 ≤ 3
          omega
        have hfr := front_xyz F
        generalize xyzW.take F = f at *
        obtain ⟨T, hT⟩ : ∃ T, T = limT true k := ⟨_, rfl⟩
        have hTl : T.length ≤ 5000 := by rw [hT]; omega
        have hO := lim_open hfr true k
        obtain ⟨x, hx1, hx2, hS⟩ := lim_shut hfr true k
        rw [← hT] at hO hS
        have hA := fun u hu => Marks_all (fs ++ strB T) y u hu (by rw [ByteArray.size_append, strB_size]; omega)
        have hB := fun u hu => Marks_all (fs ++ strB T ++ ⟨#[34, 62]⟩) y u hu (by rw [ByteArray.size_append, ByteArray.size_append, strB_size]; show fs.size + T.length + 2 ≤ _; omega)
        rw [toList_append', hfl, toList_strB] at hA
        rw [toList_append', toList_append', hfl, toList_strB, show (⟨#[34, 62]⟩ : ByteArray).toList = [34, 62] from bytes_list [34, 62], List.append_assoc] at hB
        have hn1 : ¬ 9223372036854775807 < fs.size + (strB T).size := by rw [strB_size]; omega
        have hn2 : ¬ 9223372036854775807 < fs.size + (strB T).size + 2 := by rw [strB_size]; omega
        have hzT : ((strB T).size : Int) = (T.length : Int) := by rw [strB_size]
        have hg := (marksF_ok (f ++ T)).2.1
        have hg' := (marksF_ok (f ++ (T ++ [34, 62]))).2.1
        rw [← hT]
        clear hll hkk hfs hfr hT
        by_cases h1 : 2048 < T.length
        · rw [if_pos h1] at hO
          rw [if_pos (by omega)] at hS
          have hc1 : (2048 : Int) < (T.length : Int) + 2 := by omega
          have hc2 : (2048 : Int) < (T.length : Int) := by omega
          have HA := Lib.hid hA
          have HBB := Lib.hid hB
          have HO := Lib.hid hO
          have HS := Lib.hid hS
          rw [hO] at hg
          rw [hS] at hg'
          have HG := Lib.hid hg
          have HG' := Lib.hid hg'
          clear hA hB hO hS hg hg'
          go_wp2_with fail
          refine (HA.out wr HMr.out).mono ?_
          rintro r W3 ⟨hr, hb3⟩
          rw [HO.out] at hr
          obtain ⟨aa, ca, La, hra, hla, hata, hatsa⟩ := marks_slice hr HG.out
          have HB3 := Lib.hid (belowCall HB.out hb3)
          have HM3 := Lib.hid (max_below HMr.out hb3)
          have HATa := Lib.hid hata
          clear hr hb3 hata hatsa
          subst hra
          dsimp only
          go_wp2_with fail
          refine (HBB.out W3 HM3.out).mono ?_
          rintro r W4 ⟨hr, hb4⟩
          rw [HS.out] at hr
          obtain ⟨ab, cb, Lb, hrb, hlb, hatb, hatsb⟩ := marks_slice hr HG'.out
          have HB4 := Lib.hid (belowCall HB3.out hb4)
          have HATa4 := Lib.hid (HATa.out.below hb4)
          have HATb := Lib.hid hatb
          clear hr hb4 hatb hatsb
          subst hrb
          dsimp only at hla hlb
          dsimp only
          obtain rfl := nil_of hla
          obtain rfl := nil_of hlb
          go_wp2_with fail
          go_ret
          exact ⟨rfl, HB4.out⟩
        · rw [if_neg h1] at hO
          have hc2 : ¬ (2048 : Int) < (T.length : Int) := by omega
          have hfe : Hid (fs = strB f) := toList_inj (by rw [hfl, toList_strB])
          by_cases hf : f = []
          · have hx0 : txF f = [] := by unfold txF; rw [if_pos hf]
            have hem : fs.toList.isEmpty = true ∧ fs.toList = [] := by rw [hfl, hf]; exact ⟨rfl, rfl⟩
            obtain ⟨em1, em2⟩ := hem
            rw [hx0] at hO hS
            clear hx0 hf hfl
            by_cases h2 : 2048 < T.length + 2
            · rw [if_pos h2] at hS
              have hc1 : (2048 : Int) < (T.length : Int) + 2 := by omega
              have HA := Lib.hid hA
              have HBB := Lib.hid hB
              have HO := Lib.hid hO
              have HS := Lib.hid hS
              rw [hO] at hg
              rw [hS] at hg'
              have HG := Lib.hid hg
              have HG' := Lib.hid hg'
              clear hA hB hO hS hg hg'
              go_wp2_with fail
              refine (HA.out wr HMr.out).mono ?_
              rintro r W3 ⟨hr, hb3⟩
              rw [HO.out] at hr
              obtain ⟨aa, ca, La, hra, hla, hata, hatsa⟩ := marks_slice hr HG.out
              have HB3 := Lib.hid (belowCall HB.out hb3)
              have HM3 := Lib.hid (max_below HMr.out hb3)
              have HATa := Lib.hid hata
              clear hr hb3 hata hatsa
              subst hra
              dsimp only
              go_wp2_with fail
              refine (HBB.out W3 HM3.out).mono ?_
              rintro r W4 ⟨hr, hb4⟩
              rw [HS.out] at hr
              obtain ⟨ab, cb, Lb, hrb, hlb, hatb, hatsb⟩ := marks_slice hr HG'.out
              have HB4 := Lib.hid (belowCall HB3.out hb4)
              have HATa4 := Lib.hid (HATa.out.below hb4)
              have HATb := Lib.hid hatb
              clear hr hb4 hatb hatsb
              subst hrb
              dsimp only at hla hlb
              dsimp only
              obtain rfl := nil_of hla
              obtain rfl := nil_of hlb
              go_wp2_with fail
              go_ret
              exact ⟨rfl, HB4.out⟩
            · rw [if_neg h2, List.nil_append] at hS
              have hc1 : ¬ (2048 : Int) < (T.length : Int) + 2 := by omega
              have HA := Lib.hid hA
              have HBB := Lib.hid hB
              have HO := Lib.hid hO
              have HS := Lib.hid hS
              rw [hO] at hg
              rw [hS] at hg'
              have HG := Lib.hid hg
              have HG' := Lib.hid hg'
              clear hA hB hO hS hg hg'
              go_wp2_with fail
              refine (HA.out wr HMr.out).mono ?_
              rintro r W3 ⟨hr, hb3⟩
              rw [HO.out] at hr
              obtain ⟨aa, ca, La, hra, hla, hata, hatsa⟩ := marks_slice hr HG.out
              have HB3 := Lib.hid (belowCall HB.out hb3)
              have HM3 := Lib.hid (max_below HMr.out hb3)
              have HATa := Lib.hid hata
              clear hr hb3 hata hatsa
              subst hra
              dsimp only
              go_wp2_with fail
              refine (HBB.out W3 HM3.out).mono ?_
              rintro r W4 ⟨hr, hb4⟩
              rw [HS.out] at hr
              obtain ⟨ab, cb, Lb, hrb, hlb, hatb, hatsb⟩ := marks_slice hr HG'.out
              have HB4 := Lib.hid (belowCall HB3.out hb4)
              have HATa4 := Lib.hid (HATa.out.below hb4)
              have HATb := Lib.hid hatb
              clear hr hb4 hatb hatsb
              subst hrb
              dsimp only at hla hlb
              dsimp only
              obtain rfl := nil_of hla
              obtain ⟨vb, rfl⟩ := one_of hlb
              obtain ⟨b, oo, rfl, hbw, -, x1, -⟩ := mark_cells HATb.out (k := 0) (by simp)
              have x1' : W4.cell? ⟨b, oo + 1, none⟩ = some (.string ⟨#[97]⟩) := by
                have h : W4.cell? ⟨b, oo + 0 * 5 + 1, none⟩ = some (.string (strB x.name)) := x1
                rw [hx2, Nat.zero_mul, Nat.add_zero] at h
                exact h
              clear x1
              go_wp2_with fail
              go_ret
              exact ⟨rfl, HB4.out⟩
          · have hx0 : txF f = [textM f] := by unfold txF; rw [if_neg hf]
            have hem : fs.toList.isEmpty = false ∧ ¬ fs.toList = [] := by rw [hfl]; exact ⟨by cases f; exact absurd rfl hf; rfl, hf⟩
            obtain ⟨em1, em2⟩ := hem
            rw [hx0] at hO hS
            clear hx0 hf hfl
            by_cases h2 : 2048 < T.length + 2
            · rw [if_pos h2] at hS
              have hc1 : (2048 : Int) < (T.length : Int) + 2 := by omega
              have HA := Lib.hid hA
              have HBB := Lib.hid hB
              have HO := Lib.hid hO
              have HS := Lib.hid hS
              rw [hO] at hg
              rw [hS] at hg'
              have HG := Lib.hid hg
              have HG' := Lib.hid hg'
              clear hA hB hO hS hg hg'
              go_wp2_with fail
              refine (HA.out wr HMr.out).mono ?_
              rintro r W3 ⟨hr, hb3⟩
              rw [HO.out] at hr
              obtain ⟨aa, ca, La, hra, hla, hata, hatsa⟩ := marks_slice hr HG.out
              have HB3 := Lib.hid (belowCall HB.out hb3)
              have HM3 := Lib.hid (max_below HMr.out hb3)
              have HATa := Lib.hid hata
              clear hr hb3 hata hatsa
              subst hra
              dsimp only
              go_wp2_with fail
              refine (HBB.out W3 HM3.out).mono ?_
              rintro r W4 ⟨hr, hb4⟩
              rw [HS.out] at hr
              obtain ⟨ab, cb, Lb, hrb, hlb, hatb, hatsb⟩ := marks_slice hr HG'.out
              have HB4 := Lib.hid (belowCall HB3.out hb4)
              have HATa4 := Lib.hid (HATa.out.below hb4)
              have HATb := Lib.hid hatb
              clear hr hb4 hatb hatsb
              subst hrb
              dsimp only at hla hlb
              dsimp only
              obtain ⟨va, rfl⟩ := one_of hla
              obtain rfl := nil_of hlb
              obtain ⟨bf, of, rfl, hbfw, -, -, -, -, x4⟩ := mark_cells HATa4.out (k := 0) (by simp)
              have x4' : W4.cell? ⟨bf, of + 4, none⟩ = some (.string fs) := by
                have h : W4.cell? ⟨bf, of + 0 * 5 + 4, none⟩ = some (.string (strB f)) := x4
                rw [← hfe.out, Nat.zero_mul, Nat.add_zero] at h
                exact h
              clear x4
              go_wp2_with fail
              go_ret
              exact ⟨rfl, HB4.out⟩
            · rw [if_neg h2] at hS
              have hc1 : ¬ (2048 : Int) < (T.length : Int) + 2 := by omega
              have HA := Lib.hid hA
              have HBB := Lib.hid hB
              have HO := Lib.hid hO
              have HS := Lib.hid hS
              rw [hO] at hg
              rw [hS] at hg'
              have HG := Lib.hid hg
              have HG' := Lib.hid hg'
              clear hA hB hO hS hg hg'
              go_wp2_with fail
              refine (HA.out wr HMr.out).mono ?_
              rintro r W3 ⟨hr, hb3⟩
              rw [HO.out] at hr
              obtain ⟨aa, ca, La, hra, hla, hata, hatsa⟩ := marks_slice hr HG.out
              have HB3 := Lib.hid (belowCall HB.out hb3)
              have HM3 := Lib.hid (max_below HMr.out hb3)
              have HATa := Lib.hid hata
              clear hr hb3 hata hatsa
              subst hra
              dsimp only
              go_wp2_with fail
              refine (HBB.out W3 HM3.out).mono ?_
              rintro r W4 ⟨hr, hb4⟩
              rw [HS.out] at hr
              obtain ⟨ab, cb, Lb, hrb, hlb, hatb, hatsb⟩ := marks_slice hr HG'.out
              have HB4 := Lib.hid (belowCall HB3.out hb4)
              have HATa4 := Lib.hid (HATa.out.below hb4)
              have HATb := Lib.hid hatb
              clear hr hb4 hatb hatsb
              subst hrb
              dsimp only at hla hlb
              dsimp only
              obtain ⟨va, rfl⟩ := one_of hla
              obtain ⟨vb, vb', rfl⟩ := two_of hlb
              obtain ⟨bf, of, rfl, hbfw, -, -, -, -, x4⟩ := mark_cells HATa4.out (k := 0) (by simp)
              have x4' : W4.cell? ⟨bf, of + 4, none⟩ = some (.string fs) := by
                have h : W4.cell? ⟨bf, of + 0 * 5 + 4, none⟩ = some (.string (strB f)) := x4
                rw [← hfe.out, Nat.zero_mul, Nat.add_zero] at h
                exact h
              clear x4
              obtain ⟨b, oo, rfl, hbw, -, x1, -⟩ := mark_cells HATb.out (k := 1) (by simp)
              have x1' : W4.cell? ⟨b, oo + 5 + 1, none⟩ = some (.string ⟨#[97]⟩) := by
                have h : W4.cell? ⟨b, oo + 1 * 5 + 1, none⟩ = some (.string (strB x.name)) := x1
                rw [hx2, Nat.one_mul] at h
                exact h
              clear x1
              go_wp2_with fail
              go_ret
              exact ⟨rfl, HB4.out⟩
end Go.Proofs.Ytbabcohidpcjjaa
