import Derived.Test.YtbabcohidpcjjaaGreatZDzJ
/-
  Contract: the document's reader's tag: the tag at a place, or none. (Seat 4's '.Z'.)
-/
namespace Go.Proofs.YtbabcohidpcjjaaGreat
open Go.RowKit Mem

theorem tagG_len {s nm r : Str} {al : List (Str × Str)} {sf : Bool} (h : tagG s = some (nm, al, sf, r)) : r.length ≤ s.length := by
  unfold tagG at h
  cases hu : untilF signT s with
  | none => rw [hu] at h; cases h
  | some q =>
    obtain ⟨n, t⟩ := q
    rw [hu] at h
    simp only at h
    cases ht : tagsF [] t with
    | none => rw [ht] at h; cases h
    | some x =>
      obtain ⟨al', sf', r'⟩ := x
      rw [ht] at h
      simp only [Option.map_some, Option.some.injEq, Prod.mk.injEq] at h
      have h1 := (untilF_len hu).1
      have h2 := tagsF_good_len _ [] t (Nat.le_refl _) _ _ _ ht
      obtain ⟨-, -, -, rfl⟩ := h
      omega
/-- what the document's reader's tag answers, and how it leaves the reader -/
def TagRAt (base b : Nat) (d : DocD) (p : MarkD × Int × Int) (e : Bool) (r : Ending) (w' : World) : Prop :=
  if p.2.1 < 0 then r = .returned (.tuple #[markV (.slice none 0 0) noM, .bool false]) ∧ Row w' b (docV (if 2048 < d.text.size - d.pos then { d with err := 41 } else { d with pos := d.text.size }))
  else if p.2.2 ≠ 0 then r = .returned (.tuple #[markV (.slice none 0 0) noM, .bool false]) ∧ p.2.2 = 42 ∧ Row w' b (docV { d with err := 42 })
  else ∃ sl, r = .returned (.tuple #[markV sl p.1, .bool true]) ∧ w'.ownsRow base 56 2 sl p.1.attrs.length (pairsV (attP p.1.attrs)) ∧ Row w' b (docV { d with pos := d.pos + p.2.1.toNat, mode := if e then 0 else d.mode, name := if e then [] else d.name })
theorem doc_pos (d : DocD) {q : Nat} {z : Int} (h : z = (q : Nat)) : (docV d).set 1 (.int .i64 z) = docV { d with pos := q } := by rw [h]; rfl
set_option maxRecDepth 100000 in
set_option maxHeartbeats 8000000 in
theorem dtagR_any (d : DocD) (b : Nat) (e : Bool) (w : World) (hr : Row w b (docV d)) (hs : d.text.size ≤ 4294967280) (hi : d.pos + (if e then 2 else 1) ≤ d.text.size) :
    Calls Tryz.prog 34 #[.pointer (some ⟨b, 0, none⟩), .int .i64 d.pos, .bool e] w fun r w' => TagRAt w.heap.size b d (parseF ((d.text.toList.drop d.pos).take 2048) e) e r w' ∧ Keeps (Only b) w w' := by
  have hbw := hr.lt
  have hne : w.heap.size ≠ b := by omega
  have hne2 : b ≠ w.heap.size := by omega
  obtain ⟨wa, hwa⟩ : ∃ wa, wa = w.alloc (.cells zeroMark 46) := ⟨_, rfl⟩
  have HRa := Lib.hid (show Row wa b (docV d) from hwa ▸ hr.kept (heap_alloc_old _ _ hbw))
  have HZa := Lib.hid (show wa.heap[w.heap.size]? = some (.cells zeroMark 46 (0, 0)) from by rw [hwa]; exact heap_alloc_new _ _)
  have HKa := Lib.hid (show Keeps (Only b) w wa from hwa ▸ (Keeps.refl (Only b) w).alloc _)
  have hzRa : w.heap.size < wa.heap.size := by rw [hwa]; simp
  have hbwa : b < wa.heap.size := by omega
  have HWA : Hid (wa = w.alloc (.cells #[.int .i64 0, .string ⟨#[]⟩, .slice none 0 0, .bool false, .string ⟨#[]⟩] 46)) := hwa
  obtain ⟨k, hk⟩ : ∃ k : Nat, k = if e then 2 else 1 := ⟨_, rfl⟩
  have hk2 : 1 ≤ k ∧ k ≤ 2 := by rw [hk]; split <;> omega
  rw [← hk] at hi
  obtain ⟨l, hl⟩ : ∃ l, l = d.text.toList.drop d.pos := ⟨_, rfl⟩
  rw [← hl]
  obtain ⟨L, hL⟩ : ∃ L, L = d.text.size - d.pos := ⟨_, rfl⟩
  have hll : l.length = L := by rw [hl, List.length_drop, size_toList, hL]
  obtain ⟨ss, hss⟩ : ∃ ss, ss = l.take 2048 := ⟨_, rfl⟩
  rw [← hss]
  have hsl : ss.length = min 2048 L := by rw [hss, List.length_take, hll]
  have hcall : ∀ u, Calls Tryz.prog 47 #[.string (strB ss), .int .i64 k] u fun r w' => DTagAt u.heap.size ss.length (tagG (ss.drop k)) r w' ∧ Below u.heap.size u w' := fun u => by
    have h := dtag_any (strB ss) k u (by rw [strB_size]; omega) (by rw [strB_size]; omega)
    rw [toList_strB, strB_size] at h
    exact h
  have hp := parseF_tagG ss e
  rw [← hk] at hp
  obtain ⟨P, hP⟩ : ∃ P, P = parseF ss e := ⟨_, rfl⟩
  rw [← hP] at hp ⊢
  obtain ⟨o, ho⟩ : ∃ o, o = tagG (ss.drop k) := ⟨_, rfl⟩
  rw [← ho] at hcall hp
  have hx1 : d.text.extract d.pos d.text.size = strB l := toList_inj (by rw [toList_strB, ext_end, hl])
  have hx2 : (strB l).extract 0 2048 = strB ss := toList_inj (by rw [ext_list, toList_strB, toList_strB, hss]; rfl)
  have hx3 : (strB l).size = L := by rw [strB_size, hll]
  have hx4 : ¬ 2048 < L → strB l = strB ss := fun h => by rw [hss, List.take_of_length_le (by omega)]
  have hlen : ∀ nm al sf r2, o = some (nm, al, sf, r2) → r2.length < ss.length := fun nm al sf r2 h => by
    have := tagG_len (ho.symm.trans h)
    rw [List.length_drop] at this
    omega
  obtain ⟨d0, -, -, -, -, -⟩ := doc_row HRa.out
  have hpi : (d.pos : Int) ≤ (d.text.size : Int) := by omega
  have HC := Lib.hid hcall
  have HP := Lib.hid hp
  have HX4 := Lib.hid hx4
  have HLEN := Lib.hid hlen
  have HKK := Lib.hid hk
  have HLL := Lib.hid hL
  have hLi : (L : Int) = (d.text.size : Int) - (d.pos : Int) := by omega
  have HLI := Lib.hid hLi
  have hL9 : L ≤ 4294967280 := by omega
  have hssl : ss.length ≤ 2048 := by omega
  clear hcall hp hx4 hlen hk hP ho hss hl hll hsl hwa hr hLi hL
  go_enter Tryz.func34, Tryz.ntmps34
  go_upto_region 1 with fail
  rw [← HWA.out]
  clear HWA
  go_upto_region 2 with fail
  obtain ⟨lb, hlb⟩ : ∃ lb, lb = decide (2048 < L) := ⟨_, rfl⟩
  have HLB := Lib.hid hlb
  clear hlb
  go_cut [19] (fun v wx => v = .bool lb ∧ wa = wx)
  case first =>
    by_cases h20 : 2048 < L
    · have h20i : (2048 : Int) < (L : Int) := by omega
      have hlb := Lib.hid (HLB.out.trans (decide_eq_true h20))
      go_wp2_with fail
      go_meet
      exact ⟨by rw [hlb.out], rfl⟩
    · have h20i : ¬ (2048 : Int) < (L : Int) := by omega
      have hlb := Lib.hid (HLB.out.trans (decide_eq_false h20))
      go_wp2_with fail
      go_meet
      exact ⟨by rw [hlb.out], rfl⟩
  case rest =>
    obtain ⟨rfl, rfl⟩ := hcut
    go_upto_if 19 with fail
    go_cut [8] (fun v wx => v = .string (strB ss) ∧ wa = wx)
    case first =>
      cases lb
      · have hx := Lib.hid (HX4.out (of_decide_eq_false HLB.out.symm))
        go_wp2_with fail
        go_meet
        exact ⟨by rw [hx.out], rfl⟩
      · have h20 := of_decide_eq_true HLB.out.symm
        have h20j : (2048 : Int) ≤ (L : Int) := by omega
        go_wp2_with fail
        go_meet
        exact ⟨rfl, rfl⟩
    case rest =>
      obtain ⟨rfl, rfl⟩ := hcut
      clear hx1 hx2 hx3 HX4 d0
      cases e
      · obtain rfl : k = 1 := HKK.out
        go_wp2_with fail
        refine (HC.out _).mono ?_
        rintro r w2 ⟨hd, hb⟩
        have HR2 := Lib.hid (HRa.out.below hb hbwa)
        have HZ2 := Lib.hid (zero_below HZa.out hb hzRa)
        have HK2 := Lib.hid (keeps_then' HKa.out hb)
        have hb2 : b < w2.heap.size := Nat.lt_of_lt_of_le hbwa hb.size
        have hz2 : w.heap.size < w2.heap.size := Nat.lt_of_lt_of_le hzRa hb.size
        clear hb HC
        cases o with
        | none =>
          have hd' : r = .returned (tagV 0 [] (.slice none 0 0) false) := hd
          subst hd'
          have HPN : Hid (P = (bareM 0, -1, 0)) := HP.out
          clear hd HP
          dsimp only [tagV]
          go_upto_region 8 with fail
          have HT3 := Lib.hid (heap_alloc_new w2 (.cells #[.int .i64 0, .string (strB []), .slice none 0 0, .bool false] 92))
          have HR3 := Lib.hid (HR2.out.kept (heap_alloc_old w2 (.cells #[.int .i64 0, .string (strB []), .slice none 0 0, .bool false] 92) hb2))
          have HZ3 := Lib.hid ((heap_alloc_old w2 (.cells #[.int .i64 0, .string (strB []), .slice none 0 0, .bool false] 92) hz2).trans HZ2.out)
          have HK3 := Lib.hid (HK2.out.alloc (.cells #[.int .i64 0, .string (strB []), .slice none 0 0, .bool false] 92))
          obtain ⟨tb, htb⟩ : ∃ tb, tb = w2.heap.size := ⟨_, rfl⟩
          rw [← htb] at HT3
          simp only [← htb]
          have htz : w.heap.size ≠ tb := by omega
          have htb2 : b ≠ tb := by omega
          clear htb
          generalize w2.alloc (.cells #[.int .i64 0, .string (strB []), .slice none 0 0, .bool false] 92) = w3 at *
          obtain ⟨⟨t0, t1, t2, t3⟩, -⟩ := tag_cells HT3.out
          obtain ⟨c0, c1, c2, c3, c4, c5⟩ := doc_row HR3.out
          have f1 := doc_free HR3.out 1 (by decide)
          have f2 := doc_free HR3.out 2 (by decide)
          have f3 := doc_free HR3.out 3 (by decide)
          have f5 := doc_free HR3.out 5 (by decide)
          obtain ⟨⟨q0, q1, q2, q3, q4⟩, y0, y1, y2, y3, y4⟩ := res_cells HZ3.out
          by_cases hL2 : 2048 < L
          · have hgt : (2048 : Int) < (d.text.size : Int) - (d.pos : Int) := by have := HLI.out; omega
            go_wp2_with fail
            refine bodyPost_ret (results_attr rfl _ _ w.heap.size _ _ _ _ rfl (put5_at (res_set HZ3.out hne) _ _ _ _ _) Tryz.underlying46 rfl mark_info) rfl ?_
            rw [HPN.out]
            unfold TagRAt
            rw [if_pos (show (-1 : Int) < 0 by decide), if_pos (show 2048 < d.text.size - d.pos from by have := HLL.out; omega)]
            exact ⟨⟨rfl, put5_row (HR3.out.set 5 (.int .i64 41)) hne2 _ _ _ _ _⟩, put5_keeps (keep_set HK3.out _) (Nat.le_refl _) _ _ _ _ _⟩
          · have hgt : ¬ (2048 : Int) < (d.text.size : Int) - (d.pos : Int) := by have := HLI.out; omega
            go_wp2_with fail
            refine bodyPost_ret (results_attr rfl _ _ w.heap.size _ _ _ _ rfl (put5_at (res_set HZ3.out hne) _ _ _ _ _) Tryz.underlying46 rfl mark_info) rfl ?_
            rw [HPN.out]
            unfold TagRAt
            rw [if_pos (show (-1 : Int) < 0 by decide), if_neg (show ¬ 2048 < d.text.size - d.pos from by have := HLL.out; omega)]
            exact ⟨⟨rfl, put5_row (HR3.out.set 1 (.int .i64 d.text.size)) hne2 _ _ _ _ _⟩, put5_keeps (keep_set HK3.out _) (Nat.le_refl _) _ _ _ _ _⟩
        | some q =>
          obtain ⟨nm, al, sf, r2⟩ := q
          obtain ⟨sl, rfl, hown⟩ := hd
          have hr2 := HLEN.out nm al sf r2 rfl
          obtain ⟨En, hEn⟩ : ∃ En, En = ss.length - r2.length := ⟨_, rfl⟩
          rw [← hEn]
          have hE0 : ((En : Int) == 0) = false := by rw [beq_eq_false_iff_ne]; omega
          have HEN : Hid ((ss.length : Int) - r2.length = (En : Int)) := by show _ = _; omega
          obtain ⟨a, c, rfl, -⟩ := own_at hown
          have HO2 := Lib.hid hown
          have hEs : En ≤ 4294967280 := by omega
          clear hown hEn HLEN
          dsimp only [tagV]
          go_upto_region 8 with fail
          have HT3 := Lib.hid (heap_alloc_new w2 (.cells #[.int .i64 En, .string (strB nm), .slice a al.length c, .bool sf] 92))
          have HO3 := Lib.hid (own_below HO2.out ((Below.refl _ _).alloc (Nat.le_refl _) (.cells #[.int .i64 En, .string (strB nm), .slice a al.length c, .bool sf] 92)))
          have HR3 := Lib.hid (HR2.out.kept (heap_alloc_old w2 (.cells #[.int .i64 En, .string (strB nm), .slice a al.length c, .bool sf] 92) hb2))
          have HZ3 := Lib.hid ((heap_alloc_old w2 (.cells #[.int .i64 En, .string (strB nm), .slice a al.length c, .bool sf] 92) hz2).trans HZ2.out)
          have HK3 := Lib.hid (HK2.out.alloc (.cells #[.int .i64 En, .string (strB nm), .slice a al.length c, .bool sf] 92))
          obtain ⟨tb, htb⟩ : ∃ tb, tb = w2.heap.size := ⟨_, rfl⟩
          rw [← htb] at HT3
          simp only [← htb]
          have htz : w.heap.size ≠ tb := by omega
          have htb2 : b ≠ tb := by omega
          clear htb
          generalize w2.alloc (.cells #[.int .i64 En, .string (strB nm), .slice a al.length c, .bool sf] 92) = w3 at *
          obtain ⟨⟨t0, t1, t2, t3⟩, -⟩ := tag_cells HT3.out
          obtain ⟨c0, c1, c2, c3, c4, c5⟩ := doc_row HR3.out
          have f1 := doc_free HR3.out 1 (by decide)
          have f2 := doc_free HR3.out 2 (by decide)
          have f3 := doc_free HR3.out 3 (by decide)
          have f5 := doc_free HR3.out 5 (by decide)
          obtain ⟨⟨q0, q1, q2, q3, q4⟩, y0, y1, y2, y3, y4⟩ := res_cells HZ3.out
          by_cases h8 : 8 < al.length
          · have h8i : (8 : Int) < (al.length : Int) := by omega
            have HPN : Hid (P = (bareM 0, (En : Int), 42)) := by
              show _ = _
              rw [HP.out]
              simp only [Bool.false_eq_true, if_false]
              rw [if_pos h8, HEN.out]
            go_wp2_with fail
            refine bodyPost_ret (results_attr rfl _ _ w.heap.size _ _ _ _ rfl (put5_at (res_set HZ3.out hne) _ _ _ _ _) Tryz.underlying46 rfl mark_info) rfl ?_
            rw [HPN.out]
            unfold TagRAt
            rw [if_neg (show ¬ (En : Int) < 0 by omega), if_pos (show (42 : Int) ≠ 0 by decide)]
            exact ⟨⟨rfl, rfl, put5_row (HR3.out.set 5 (.int .i64 42)) hne2 _ _ _ _ _⟩, put5_keeps (keep_set HK3.out _) (Nat.le_refl _) _ _ _ _ _⟩
          · have h8i : ¬ (8 : Int) < (al.length : Int) := by omega
            have HPN : Hid (P = (⟨2, nm, al, sf, []⟩, (En : Int), 0)) := by
              show _ = _
              rw [HP.out]
              simp only [Bool.false_eq_true, if_false]
              rw [if_neg h8, HEN.out]
            go_wp2_with fail
            refine bodyPost_ret (results_attr rfl _ _ w.heap.size _ _ _ _ rfl (put5_at (res_set HZ3.out hne) _ _ _ _ _) Tryz.underlying46 rfl mark_info) rfl ?_
            rw [HPN.out]
            unfold TagRAt
            rw [if_neg (show ¬ (En : Int) < 0 by omega), if_neg (show ¬ (0 : Int) ≠ 0 from fun h => h rfl)]
            refine ⟨⟨.slice a al.length c, rfl, own_base (own_put5 (own_kept HO3.out fun g hg => heap_setCell_other _ _ _ _ (by show g ≠ b; have := (HO3.out.lt g hg).1; omega)) hzRa _ _ _ _ _) (Nat.le_of_lt hzRa), ?_⟩, put5_keeps (keep_set HK3.out _) (Nat.le_refl _) _ _ _ _ _⟩
            exact put5_row (HR3.out.set 1 (.int .i64 ((d.pos : Int) + (En : Int)))) hne2 _ _ _ _ _
      · obtain rfl : k = 2 := HKK.out
        go_wp2_with fail
        refine (HC.out _).mono ?_
        rintro r w2 ⟨hd, hb⟩
        have HR2 := Lib.hid (HRa.out.below hb hbwa)
        have HZ2 := Lib.hid (zero_below HZa.out hb hzRa)
        have HK2 := Lib.hid (keeps_then' HKa.out hb)
        have hb2 : b < w2.heap.size := Nat.lt_of_lt_of_le hbwa hb.size
        have hz2 : w.heap.size < w2.heap.size := Nat.lt_of_lt_of_le hzRa hb.size
        clear hb HC
        cases o with
        | none =>
          have hd' : r = .returned (tagV 0 [] (.slice none 0 0) false) := hd
          subst hd'
          have HPN : Hid (P = (bareM 0, -1, 0)) := HP.out
          clear hd HP
          dsimp only [tagV]
          go_upto_region 8 with fail
          have HT3 := Lib.hid (heap_alloc_new w2 (.cells #[.int .i64 0, .string (strB []), .slice none 0 0, .bool false] 92))
          have HR3 := Lib.hid (HR2.out.kept (heap_alloc_old w2 (.cells #[.int .i64 0, .string (strB []), .slice none 0 0, .bool false] 92) hb2))
          have HZ3 := Lib.hid ((heap_alloc_old w2 (.cells #[.int .i64 0, .string (strB []), .slice none 0 0, .bool false] 92) hz2).trans HZ2.out)
          have HK3 := Lib.hid (HK2.out.alloc (.cells #[.int .i64 0, .string (strB []), .slice none 0 0, .bool false] 92))
          obtain ⟨tb, htb⟩ : ∃ tb, tb = w2.heap.size := ⟨_, rfl⟩
          rw [← htb] at HT3
          simp only [← htb]
          have htz : w.heap.size ≠ tb := by omega
          have htb2 : b ≠ tb := by omega
          clear htb
          generalize w2.alloc (.cells #[.int .i64 0, .string (strB []), .slice none 0 0, .bool false] 92) = w3 at *
          obtain ⟨⟨t0, t1, t2, t3⟩, -⟩ := tag_cells HT3.out
          obtain ⟨c0, c1, c2, c3, c4, c5⟩ := doc_row HR3.out
          have f1 := doc_free HR3.out 1 (by decide)
          have f2 := doc_free HR3.out 2 (by decide)
          have f3 := doc_free HR3.out 3 (by decide)
          have f5 := doc_free HR3.out 5 (by decide)
          obtain ⟨⟨q0, q1, q2, q3, q4⟩, y0, y1, y2, y3, y4⟩ := res_cells HZ3.out
          by_cases hL2 : 2048 < L
          · have hgt : (2048 : Int) < (d.text.size : Int) - (d.pos : Int) := by have := HLI.out; omega
            go_wp2_with fail
            refine bodyPost_ret (results_attr rfl _ _ w.heap.size _ _ _ _ rfl (put5_at (res_set HZ3.out hne) _ _ _ _ _) Tryz.underlying46 rfl mark_info) rfl ?_
            rw [HPN.out]
            unfold TagRAt
            rw [if_pos (show (-1 : Int) < 0 by decide), if_pos (show 2048 < d.text.size - d.pos from by have := HLL.out; omega)]
            exact ⟨⟨rfl, put5_row (HR3.out.set 5 (.int .i64 41)) hne2 _ _ _ _ _⟩, put5_keeps (keep_set HK3.out _) (Nat.le_refl _) _ _ _ _ _⟩
          · have hgt : ¬ (2048 : Int) < (d.text.size : Int) - (d.pos : Int) := by have := HLI.out; omega
            go_wp2_with fail
            refine bodyPost_ret (results_attr rfl _ _ w.heap.size _ _ _ _ rfl (put5_at (res_set HZ3.out hne) _ _ _ _ _) Tryz.underlying46 rfl mark_info) rfl ?_
            rw [HPN.out]
            unfold TagRAt
            rw [if_pos (show (-1 : Int) < 0 by decide), if_neg (show ¬ 2048 < d.text.size - d.pos from by have := HLL.out; omega)]
            exact ⟨⟨rfl, put5_row (HR3.out.set 1 (.int .i64 d.text.size)) hne2 _ _ _ _ _⟩, put5_keeps (keep_set HK3.out _) (Nat.le_refl _) _ _ _ _ _⟩
        | some q =>
          obtain ⟨nm, al, sf, r2⟩ := q
          obtain ⟨sl, rfl, hown⟩ := hd
          have hr2 := HLEN.out nm al sf r2 rfl
          obtain ⟨En, hEn⟩ : ∃ En, En = ss.length - r2.length := ⟨_, rfl⟩
          rw [← hEn]
          have hE0 : ((En : Int) == 0) = false := by rw [beq_eq_false_iff_ne]; omega
          have HEN : Hid ((ss.length : Int) - r2.length = (En : Int)) := by show _ = _; omega
          obtain ⟨a, c, rfl, -⟩ := own_at hown
          have HO2 := Lib.hid hown
          have hEs : En ≤ 4294967280 := by omega
          clear hown hEn HLEN
          dsimp only [tagV]
          go_upto_region 8 with fail
          have HT3 := Lib.hid (heap_alloc_new w2 (.cells #[.int .i64 En, .string (strB nm), .slice a al.length c, .bool sf] 92))
          have HO3 := Lib.hid (own_below HO2.out ((Below.refl _ _).alloc (Nat.le_refl _) (.cells #[.int .i64 En, .string (strB nm), .slice a al.length c, .bool sf] 92)))
          have HR3 := Lib.hid (HR2.out.kept (heap_alloc_old w2 (.cells #[.int .i64 En, .string (strB nm), .slice a al.length c, .bool sf] 92) hb2))
          have HZ3 := Lib.hid ((heap_alloc_old w2 (.cells #[.int .i64 En, .string (strB nm), .slice a al.length c, .bool sf] 92) hz2).trans HZ2.out)
          have HK3 := Lib.hid (HK2.out.alloc (.cells #[.int .i64 En, .string (strB nm), .slice a al.length c, .bool sf] 92))
          obtain ⟨tb, htb⟩ : ∃ tb, tb = w2.heap.size := ⟨_, rfl⟩
          rw [← htb] at HT3
          simp only [← htb]
          have htz : w.heap.size ≠ tb := by omega
          have htb2 : b ≠ tb := by omega
          clear htb
          generalize w2.alloc (.cells #[.int .i64 En, .string (strB nm), .slice a al.length c, .bool sf] 92) = w3 at *
          obtain ⟨⟨t0, t1, t2, t3⟩, -⟩ := tag_cells HT3.out
          obtain ⟨c0, c1, c2, c3, c4, c5⟩ := doc_row HR3.out
          have f1 := doc_free HR3.out 1 (by decide)
          have f2 := doc_free HR3.out 2 (by decide)
          have f3 := doc_free HR3.out 3 (by decide)
          have f5 := doc_free HR3.out 5 (by decide)
          obtain ⟨⟨q0, q1, q2, q3, q4⟩, y0, y1, y2, y3, y4⟩ := res_cells HZ3.out
          have HPN : Hid (P = (⟨3, nm, [], false, []⟩, (En : Int), 0)) := by
            show _ = _
            rw [HP.out]
            simp only [if_true]
            rw [HEN.out]
          go_wp2_with fail
          refine bodyPost_ret (results_attr rfl _ _ w.heap.size _ _ _ _ rfl (put5_at (res_set (res_set (res_set HZ3.out hne) hne) hne) _ _ _ _ _) Tryz.underlying46 rfl mark_info) rfl ?_
          rw [HPN.out]
          unfold TagRAt
          rw [if_neg (show ¬ (En : Int) < 0 by omega), if_neg (show ¬ (0 : Int) ≠ 0 from fun h => h rfl)]
          refine ⟨⟨.slice none 0 0, rfl, World.ownsRow_nil _ _ _ _, ?_⟩, put5_keeps (keep_set (keep_set (keep_set HK3.out _) _) _) (Nat.le_refl _) _ _ _ _ _⟩
          exact put5_row (((HR3.out.set 1 (.int .i64 ((d.pos : Int) + (En : Int)))).set 2 (.int .i64 0)).set 3 (.string ⟨#[]⟩)) hne2 _ _ _ _ _
end Go.Proofs.YtbabcohidpcjjaaGreat
