import Derived.Test.YtidbihdnginmcaaRfR
import Derived.Test.YtidbihdnginmcaaIntsA
import Derived.Test.YtidbihdnginmcaaForH
import Derived.Test.YtidbihdnginmcaaOpenF
import Derived.Test.YtidbihdnginmcaaFarW
import Derived.Test.YtidbihdnginmcaaMvs
/-
  Contract: law 14's alike: both trees tell the same of a number. No conditions beyond those that each lemma types.
-/
namespace Go.Proofs.Ytidbihdnginmcaa
open Go.RowKit Mem

theorem ints_eq (l : List Int) (a a' : Option Addr) (n m c c' : Nat) (w : World) (hn : n = l.length) (hm : m = l.length) (hl : l.length ≤ maxLen) (ha : At w a (intsV l)) (ha' : At w a' (intsV l)) :
    Calls Try.prog 16 #[.slice a n c, .slice a' m c'] w fun e w' => e = .returned (.bool true) ∧ Below w.heap.size w w' := by
  subst hn
  refine (ints14_any l l a a' c c' w hl ha ha').mono ?_ |> fun h => by subst hm; exact h
  rintro e w' ⟨rfl, n, rfl⟩
  exact ⟨by rw [decide_eq_true rfl], ⟨rfl, rfl, rfl, Nat.le_refl _, fun _ _ => rfl⟩⟩
theorem same_eq (l : List Pair) (a a' : Option Addr) (n m c c' : Nat) (w : World) (hn : n = l.length) (hm : m = l.length) (hl : l.length ≤ maxLen) (ha : At w a (pairsV l)) (ha' : At w a' (pairsV l)) :
    Calls Try.prog 49 #[.slice a n c, .slice a' m c'] w fun e w' => e = .returned (.bool true) ∧ Below w.heap.size w w' := by
  subst hn
  subst hm
  refine (sameAttrs_any l l a a' c c' w hl hl ha ha').mono ?_
  rintro e w' ⟨rfl, n, rfl⟩
  exact ⟨by rw [samePairs_self], ⟨rfl, rfl, rfl, Nat.le_refl _, fun _ _ => rfl⟩⟩

theorem own_more {w : World} {B B' : Nat} {e : TypeId} {s n : Nat} {v : Value} {xs : List Value} (h : w.ownsRow B' e s v n xs) (hB : B ≤ B') : w.ownsRow B e s v n xs := by
  refine ⟨h.1, ?_⟩
  rcases h.2 with h' | ⟨g, cap, cur, h1, h2, h3⟩
  · exact .inl h'
  · exact .inr ⟨g, cap, cur, h1, Nat.le_trans hB h2, h3⟩
theorem own_two {w : World} {B B' : Nat} {e e' : TypeId} {s s' : Nat} {v v' : Value} {n n' : Nat} {xs ys : List Value} {k : Nat} (h : w.ownsRow B e s v n xs) (h' : w.ownsRow B' e' s' v' n' ys) (hk : v.ownBlock = some k) (hk' : v'.ownBlock = some k) (hne : e ≠ e') : False := by
  rcases h.2 with ⟨rfl, _⟩ | ⟨g, cap, cur, rfl, _, hg, _⟩
  · cases hk
  · rcases h'.2 with ⟨rfl, _⟩ | ⟨g', cap', cur', rfl, _, hg', _⟩
    · cases hk'
    · simp only [Value.ownBlock, Option.some.injEq] at hk hk'
      subst hk
      subst hk'
      rw [hg] at hg'
      cases hg'
      exact hne rfl

set_option maxRecDepth 100000 in
set_option maxHeartbeats 8000000 in
theorem alike_elem (T : TreeD) (F1 F2 : Nat → Prop) (tb g rb gn gk : Nat) (w : World) (i : Nat) (hlt : i < T.nodes.length) (h1i : 1 ≤ i) (he : T.nodes[i].elem = true) (hw : WF T) (hlen : T.nodes.length ≤ 1000000) (hat : ∀ i (h : i < T.nodes.length), T.nodes[i].attrs.length ≤ 1048576) (h : TreeO w tb g (farW F1 T)) (hR : RefO w rb gn gk (farW F2 T)) :
    Calls Try.prog 23 #[.pointer (some ⟨tb, 0, none⟩), .pointer (some ⟨rb, 0, none⟩), .int .i64 i] w fun e w' => e = .returned (.bool true) ∧ Below w.heap.size w w' := by
  have hel : elemF T i = true := by rw [elemF_of T i h1i hlt, he]
  have hif : isF T i = true := by simp [isF]; omega
  obtain ⟨e1, e2, e3⟩ := what_of hlt hel
  have e4 := kidsF_of T i hlt
  have e5 := parentF_of T i hlt
  have hq : kidsQ T i = kidsF T i := by rw [kidsQ, if_pos (by omega)]
  have hkl : ∀ i (h : i < (farW F1 T).nodes.length), (farW F1 T).nodes[i].kids.length ≤ 2097152 := fun j hj => by
    have := kids_short hw j hj
    rw [kidsF_of T j hj] at this
    show T.nodes[j].kids.length ≤ _
    omega
  have hKQ : ∀ u, TreeO u tb g (farW F1 T) → Calls Try.prog 13 #[.pointer (some ⟨tb, 0, none⟩), .int .i64 i] u fun e w' => ∃ v, e = .returned v ∧ w'.ownsRow u.heap.size 3 1 v (kidsF T i).length (intsV (kidsF T i)) ∧ Below u.heap.size u w' := fun u hu => by
    have := kids_any (farW F1 T) tb g u i hu hkl
    rw [show kidsQ (farW F1 T) i = kidsF T i from hq] at this
    exact this
  have hWQ : ∀ u, TreeO u tb g (farW F1 T) → Calls Try.prog 43 #[.pointer (some ⟨tb, 0, none⟩), .int .i64 i] u fun e w' => ∃ v, e = .returned (.tuple #[.int .i64 T.nodes[i].space, .string T.nodes[i].name, v]) ∧ w'.ownsRow u.heap.size 81 2 v T.nodes[i].attrs.length (pairsV T.nodes[i].attrs) ∧ Below u.heap.size u w' := fun u hu => by
    have := What_any (farW F1 T) tb g u i hat hu
    rw [show spaceQ (farW F1 T) i = _ from e1, show nameQ (farW F1 T) i = _ from e2, show attrsQ (farW F1 T) i = _ from e3] at this
    exact this
  have hParQ : ∀ u, TreeO u tb g (farW F1 T) → Calls Try.prog 21 #[.pointer (some ⟨tb, 0, none⟩), .int .i64 i] u fun e w' => e = .returned (.int .i64 T.nodes[i].parent) ∧ u = w' := fun u hu => by
    have := parent_any (farW F1 T) tb g u i hu
    rw [show isF (farW F1 T) i = true from hif, if_pos rfl, show parentF (farW F1 T) i = _ from e5] at this
    exact this
  have hIsQ : ∀ u, TreeO u tb g (farW F1 T) → Calls Try.prog 61 #[.pointer (some ⟨tb, 0, none⟩), .int .i64 i] u fun e w' => e = .returned (.bool true) ∧ u = w' := fun u hu => by
    have := Is_any (farW F1 T) tb g u i hu
    rw [show elemF (farW F1 T) i = true from hel] at this
    exact this
  have HLen := Lib.hid (rlen_any (farW F2 T) rb gn gk w hR)
  have hE := relem_any (farW F2 T) rb gn gk w i hR
  rw [show elemF (farW F2 T) i = true from hel] at hE
  have HE := Lib.hid hE
  obtain ⟨capn, capk, p1, p2, p3, p4, c0, c1, _, _, _, _⟩ := hR.head
  obtain ⟨aa, ac, _, hal, haa, d0, d1, d2, d3, d4, d5⟩ := hR.node6 hlt
  obtain ⟨ka, kc, kk1, kk2, _, hKA, dk, _⟩ := hR.kidc hlt
  have hkn := kids_short hw i hlt
  have hT := h
  have HT := Lib.hid h
  have HAA := Lib.hid haa.at
  have HKA := Lib.hid hKA.at
  have HKQ := Lib.hid (hKQ w h)
  simp only [farW] at p1 p3 c0 c1 d0 d1 d2 d3 d4 d5 hal HAA HLen
  rw [show kidsF (farW F2 T) i = kidsF T i from rfl] at dk kk1 HKA
  have C0 := Lib.hid c0
  have D1 := Lib.hid d1
  have D2 := Lib.hid d2
  have D3 := Lib.hid d3
  have D5 := Lib.hid d5
  have hAs := hat i hlt
  have HTn := Lib.hid (show i < T.nodes.length from hlt)
  generalize T.nodes[i].space = SP at *
  generalize T.nodes[i].name = NM at *
  generalize T.nodes[i].parent = PA at *
  generalize kidsF T i = K at *
  generalize T.nodes[i].attrs = A at *
  have HWQ := Lib.hid hWQ
  have HParQ := Lib.hid hParQ
  have HIsQ := Lib.hid hIsQ
  unfold maxLen at p2 p4 kk2
  have hN : (i : Int) ≤ (T.nodes.length : Int) - 1 := by omega
  have hN1 : (1 : Int) ≤ (i : Int) := by omega
  have hN0 : ((i : Int) == 0) = false := by rw [beq_eq_false_iff_ne]; omega
  clear h hT hR hE hel hif e1 e2 e3 e4 e5 hq hkl haa hKA hKQ hWQ hat hw hIsQ hParQ
  go_enter Try.func23, Try.ntmps23
  go_wp2_with (first | (go_at_call 22; go_must (refine HLen.out.mono ?_; rintro e v1 ⟨rfl, rfl⟩)) | (go_at_call 60; go_must (refine HE.out.mono ?_; rintro e v1 ⟨rfl, rfl⟩)))
  refine HKQ.out.mono ?_
  rintro e w1 ⟨v1, rfl, ho1, hb1⟩
  obtain ⟨a1, c1', rfl, _, _, _, hat1⟩ := own_at ho1
  have HI := Lib.hid (ints_eq K a1 ka K.length K.length c1' kc w1 rfl rfl (by unfold maxLen; omega) hat1 (HKA.out.below hb1))
  have O1 := Lib.hid ho1
  have B1 := Lib.hid hb1
  clear ho1 hb1 hat1 HKQ
  go_wp2_with fail
  refine HI.out.mono ?_
  rintro e w2 ⟨rfl, hb2⟩
  have O2 := Lib.hid (own_below O1.out hb2)
  have B2 := Lib.hid (belowCall B1.out hb2)
  have HW := Lib.hid (HWQ.out w2 (HT.out.below B2.out))
  clear hb2 HI O1 B1
  go_wp2_with fail
  refine HW.out.mono ?_
  rintro e w3 ⟨v3, rfl, ho3, hb3⟩
  obtain ⟨a2, c2, rfl, _, _, _, hat3⟩ := own_at ho3
  have OK3 := Lib.hid (own_below O2.out hb3)
  have B3 := Lib.hid (belowCall B2.out hb3)
  have OA3 := Lib.hid (own_more (B := w.heap.size) ho3 B2.out.size)
  have HS := Lib.hid (same_eq A a2 aa A.length A.length c2 ac w3 rfl rfl (by unfold maxLen; omega) hat3 (HAA.out.below B3.out))
  have z0 := cell_later B3.out C0.out
  have z3 := cell_later B3.out D3.out
  clear hb3 ho3 hat3 HW O2 B2
  go_wp2_with fail
  refine HS.out.mono ?_
  rintro e w4 ⟨rfl, hb4⟩
  have OK := Lib.hid (own_below OK3.out hb4)
  have OA := Lib.hid (own_below OA3.out hb4)
  have BB := Lib.hid (belowCall B3.out hb4)
  have y0 := cell_later BB.out C0.out
  have y1 := cell_later BB.out D1.out
  have y2 := cell_later BB.out D2.out
  have y5 := cell_later BB.out D5.out
  clear hb4 HS OK3 OA3 B3 z0 z3 c0 c1 d0 d1 d2 d3 d4 d5 dk
  generalize c1' = c1 at *
  go_wp2_with fail
  go_loopw [17] (fun i wi => ∃ (m : Nat) (P : List Int), m ≤ K.length ∧ i = .int .i64 m ∧ P.length = K.length ∧ wi.ownsRow w.heap.size 3 1 (.slice a1 K.length c1) K.length (intsV P) ∧ wi.ownsRow w.heap.size 81 2 (.slice a2 A.length c2) A.length (pairsV A) ∧ Below w.heap.size w wi) (fun i _ => K.length - (intOf i).toNat)
  case atStart => exact ⟨0, K, Nat.zero_le _, rfl, rfl, OK.out, OA.out, BB.out⟩
  case round =>
    obtain ⟨m, P, hm, rfl, hP, ho, hoa, hb⟩ := hrel
    have HO := Lib.hid ho
    have HOA := Lib.hid hoa
    have HP := Lib.hid hP
    have HB := Lib.hid hb
    clear hP hoa hb
    by_cases hmt : m < K.length
    · have hmL : m < P.length := by rw [HP.out]; exact hmt
      obtain ⟨g1, cap1, he1, hg1, _, _⟩ := own_some ho (by omega)
      injection he1 with e1 e2 e3
      subst e1
      have g2 := (own_row ho).cell (intsV_get P m hmL)
      have f2 : wr.frozen? ⟨g1, m, none⟩ = false := ho.frozenAt _
      have HG1 := Lib.hid hg1
      clear ho e3 hg1 e2
      go_wp2_with fail
      go_roundw
      case rel =>
        refine ⟨m + 1, P.set m (-1), by omega, by go_num, by rw [List.length_set]; exact HP.out, ?_, ?_, HB.out.setCell HG1.out _⟩
        · rw [show intsV (P.set m (-1)) = (intsV P).set m (.int .i64 (-1)) by simp [intsV, List.map_set]]
          simpa using (HO.out.stored m (.int .i64 (-1))).1
        · refine own_kept HOA.out fun k hk => heap_setCell_other _ _ _ _ ?_
          rintro rfl
          exact own_two HO.out HOA.out rfl hk (by decide)
      case measure => simp [intOf]; omega
    · clear ho
      go_wp2_with fail
      obtain ⟨wo, rfl⟩ : ∃ wo : World, wo = wr := ⟨_, rfl⟩
      go_loopw [18] (fun i wi => ∃ (m : Nat) (P : List Pair), m ≤ A.length ∧ i = .int .i64 m ∧ P.length = A.length ∧ wi.ownsRow w.heap.size 81 2 (.slice a2 A.length c2) A.length (pairsV P) ∧ Below w.heap.size w wi) (fun i _ => A.length - (intOf i).toNat)
      case atStart => exact ⟨0, A, Nat.zero_le _, rfl, rfl, HOA.out, HB.out⟩
      case round =>
        obtain ⟨m, P, hm, rfl, hP, ho, hb⟩ := hrel
        have HO := Lib.hid ho
        have HP := Lib.hid hP
        have HB := Lib.hid hb
        clear hP hb
        by_cases hmt : m < A.length
        · have hmL : m < P.length := by rw [HP.out]; exact hmt
          obtain ⟨g1, cap1, he1, hg1, _, _⟩ := own_some ho (by omega)
          injection he1 with e1 e2 e3
          subst e1
          have g2 := (own_row ho).cell (pairsV_get0 P m hmL)
          have g3 := (own_row ho).cell (pairsV_get1 P m hmL)
          have f2 : wr.frozen? ⟨g1, m * 2, none⟩ = false := ho.frozenAt _
          have f3 : wr.frozen? ⟨g1, m * 2 + 1, none⟩ = false := ho.frozenAt _
          have HG1 := Lib.hid hg1
          clear ho e3 hg1 e2
          go_wp2_with fail
          go_roundw
          case rel =>
            refine ⟨m + 1, P.set m (⟨#[33]⟩, ⟨#[]⟩), by omega, by go_num, by rw [List.length_set]; exact HP.out, ?_, (HB.out.setCell HG1.out _).setCell HG1.out _⟩
            rw [← pairsV_set]
            exact ((HO.out.stored (m * 2) _).1.stored (m * 2 + 1) _).1
          case measure => simp [intOf]; omega
        · have HPc := Lib.hid (HParQ.out _ (HT.out.below HB.out))
          have HIc := Lib.hid (HIsQ.out _ (HT.out.below HB.out))
          clear ho
          go_wp2_with (first | (go_at_call 21; go_must (refine HPc.out.mono ?_; rintro e v1 ⟨rfl, rfl⟩)) | (go_at_call 61; go_must (refine HIc.out.mono ?_; rintro e v1 ⟨rfl, rfl⟩)))
          go_ret
          exact ⟨rfl, HB.out⟩

set_option maxRecDepth 100000 in
set_option maxHeartbeats 8000000 in
theorem alike_text (T : TreeD) (F1 F2 : Nat → Prop) (tb g rb gn gk : Nat) (w : World) (i : Nat) (hlt : i < T.nodes.length) (h1i : 1 ≤ i) (he : T.nodes[i].elem = false) (hw : WF T) (hlen : T.nodes.length ≤ 1000000) (hat : ∀ i (h : i < T.nodes.length), T.nodes[i].attrs.length ≤ 1048576) (h : TreeO w tb g (farW F1 T)) (hR : RefO w rb gn gk (farW F2 T)) :
    Calls Try.prog 23 #[.pointer (some ⟨tb, 0, none⟩), .pointer (some ⟨rb, 0, none⟩), .int .i64 i] w fun e w' => e = .returned (.bool true) ∧ Below w.heap.size w w' := by
  have hel : elemF T i = false := by rw [elemF_of T i h1i hlt, he]
  obtain ⟨K, hKe⟩ : ∃ K, K = kidsF T i := ⟨_, rfl⟩
  have hq : kidsQ T i = K := by rw [kidsQ, if_pos (by omega), hKe]
  have hpa : (if isF T i then parentF T i else -1) = T.nodes[i].parent := by rw [show isF T i = true by simp [isF]; omega, if_pos rfl, parentF_of T i hlt]
  obtain ⟨q1, q2, q3⟩ := what_no hel
  obtain ⟨A, hA⟩ : ∃ A : List Pair, A = [] := ⟨_, rfl⟩
  have hkl : ∀ i (h : i < (farW F1 T).nodes.length), (farW F1 T).nodes[i].kids.length ≤ 2097152 := fun j hj => by
    have := kids_short hw j hj
    rw [kidsF_of T j hj] at this
    show T.nodes[j].kids.length ≤ _
    omega
  have hKQ : ∀ u, TreeO u tb g (farW F1 T) → Calls Try.prog 13 #[.pointer (some ⟨tb, 0, none⟩), .int .i64 i] u fun e w' => ∃ v, e = .returned v ∧ w'.ownsRow u.heap.size 3 1 v K.length (intsV K) ∧ Below u.heap.size u w' := fun u hu => by
    have := kids_any (farW F1 T) tb g u i hu hkl
    rw [show kidsQ (farW F1 T) i = K from hq] at this
    exact this
  have hWQ : ∀ u, TreeO u tb g (farW F1 T) → Calls Try.prog 43 #[.pointer (some ⟨tb, 0, none⟩), .int .i64 i] u fun e w' => ∃ v, e = .returned (.tuple #[.int .i64 0, .string ⟨#[]⟩, v]) ∧ w'.ownsRow u.heap.size 81 2 v A.length (pairsV A) ∧ Below u.heap.size u w' := fun u hu => by
    have := What_any (farW F1 T) tb g u i hat hu
    rw [show spaceQ (farW F1 T) i = _ from q1, show nameQ (farW F1 T) i = _ from q2, show attrsQ (farW F1 T) i = _ from q3, ← hA] at this
    exact this
  have hParQ : ∀ u, TreeO u tb g (farW F1 T) → Calls Try.prog 21 #[.pointer (some ⟨tb, 0, none⟩), .int .i64 i] u fun e w' => e = .returned (.int .i64 (T.nodes[i].parent)) ∧ u = w' := fun u hu => by
    have := parent_any (farW F1 T) tb g u i hu
    rw [show (if isF (farW F1 T) i then parentF (farW F1 T) i else -1) = T.nodes[i].parent from hpa] at this
    exact this
  have hIsQ : ∀ u, TreeO u tb g (farW F1 T) → Calls Try.prog 61 #[.pointer (some ⟨tb, 0, none⟩), .int .i64 i] u fun e w' => e = .returned (.bool false) ∧ u = w' := fun u hu => by
    have := Is_any (farW F1 T) tb g u i hu
    rw [show elemF (farW F1 T) i = false from hel] at this
    exact this
  have HLen := Lib.hid (rlen_any (farW F2 T) rb gn gk w hR)
  have hE := relem_any (farW F2 T) rb gn gk w i hR
  rw [show elemF (farW F2 T) i = false from hel] at hE
  have HE := Lib.hid hE
  obtain ⟨capn, capk, p1, p2, p3, p4, c0, c1, _, _, _, _⟩ := hR.head
  obtain ⟨aa, ac, _, hal, haa, d0, d1, d2, d3, d4, d5⟩ := hR.node6 hlt
  obtain ⟨ka, kc, kk1, kk2, _, hKA, dk, _⟩ := hR.kidc hlt
  have hkn := kids_short hw i hlt
  have HKA := Lib.hid hKA.at
  rw [show kidsF (farW F2 T) i = kidsF T i from rfl, ← hKe] at dk kk1 HKA
  rw [← hKe] at hkn
  have HKE := Lib.hid hKe
  have HT := Lib.hid h
  have HKQ := Lib.hid (hKQ w h)
  have hA0 : ((A.length : Int) == 0) = true := by rw [hA]; rfl
  have hAs : A.length ≤ 1048576 := by rw [hA]; exact Nat.zero_le _
  simp only [farW] at p1 p3 c0 c1 HLen
  simp only [farW] at d5
  have C0 := Lib.hid c0
  have D5 := Lib.hid d5
  generalize T.nodes[i].parent = PA at *
  clear d0 d1 d2 d3 d4 hal haa hKA hKe d5
  have HWQ := Lib.hid hWQ
  have HParQ := Lib.hid hParQ
  have HIsQ := Lib.hid hIsQ
  unfold maxLen at p2 p4
  unfold maxLen at kk2
  have hN : (i : Int) ≤ (T.nodes.length : Int) - 1 := by omega
  have hN1 : (1 : Int) ≤ (i : Int) := by omega
  have hN0 : ((i : Int) == 0) = false := by rw [beq_eq_false_iff_ne]; omega
  clear h hR hE hel q1 q2 q3 hq hpa hkl hKQ hWQ hat hw hIsQ hParQ hA
  go_enter Try.func23, Try.ntmps23
  go_wp2_with (first | (go_at_call 22; go_must (refine HLen.out.mono ?_; rintro e v1 ⟨rfl, rfl⟩)) | (go_at_call 60; go_must (refine HE.out.mono ?_; rintro e v1 ⟨rfl, rfl⟩)))
  refine HKQ.out.mono ?_
  rintro e w1 ⟨v1, rfl, ho1, hb1⟩
  obtain ⟨a1, c1', rfl, _, _, _, hat1⟩ := own_at ho1
  have HI := Lib.hid (ints_eq K a1 ka K.length K.length c1' kc w1 rfl rfl (by unfold maxLen; omega) hat1 (HKA.out.below hb1))
  have O1 := Lib.hid ho1
  have B1 := Lib.hid hb1
  clear ho1 hb1 hat1 HKQ
  go_wp2_with fail
  refine HI.out.mono ?_
  rintro e w2 ⟨rfl, hb2⟩
  have O2 := Lib.hid (own_below O1.out hb2)
  have B2 := Lib.hid (belowCall B1.out hb2)
  have HW := Lib.hid (HWQ.out w2 (HT.out.below B2.out))
  clear hb2 HI O1 B1
  go_wp2_with fail
  refine HW.out.mono ?_
  rintro e w3 ⟨v3, rfl, ho3, hb3⟩
  obtain ⟨a2, c2, rfl, _, _, _, hat3⟩ := own_at ho3
  have OK := Lib.hid (own_below O2.out hb3)
  have BB := Lib.hid (belowCall B2.out hb3)
  have OA := Lib.hid (own_more (B := w.heap.size) ho3 B2.out.size)
  have y0 := cell_later BB.out C0.out
  have y5 := cell_later BB.out D5.out
  clear dk
  clear hb3 ho3 hat3 HW O2 B2 c0 c1
  generalize c1' = c1 at *
  go_wp2_with fail
  go_loopw [17] (fun i wi => ∃ (m : Nat) (P : List Int), m ≤ K.length ∧ i = .int .i64 m ∧ P.length = K.length ∧ wi.ownsRow w.heap.size 3 1 (.slice a1 K.length c1) K.length (intsV P) ∧ wi.ownsRow w.heap.size 81 2 (.slice a2 A.length c2) A.length (pairsV A) ∧ Below w.heap.size w wi) (fun i _ => K.length - (intOf i).toNat)
  case atStart => exact ⟨0, K, Nat.zero_le _, rfl, rfl, OK.out, OA.out, BB.out⟩
  case round =>
    obtain ⟨m, P, hm, rfl, hP, ho, hoa, hb⟩ := hrel
    have HO := Lib.hid ho
    have HOA := Lib.hid hoa
    have HP := Lib.hid hP
    have HB := Lib.hid hb
    clear hP hoa hb
    by_cases hmt : m < K.length
    · have hmL : m < P.length := by rw [HP.out]; exact hmt
      obtain ⟨g1, cap1, he1, hg1, _, _⟩ := own_some ho (by omega)
      injection he1 with e1 e2 e3
      subst e1
      have g2 := (own_row ho).cell (intsV_get P m hmL)
      have f2 : wr.frozen? ⟨g1, m, none⟩ = false := ho.frozenAt _
      have HG1 := Lib.hid hg1
      clear ho e3 hg1 e2
      go_wp2_with fail
      go_roundw
      case rel =>
        refine ⟨m + 1, P.set m (-1), by omega, by go_num, by rw [List.length_set]; exact HP.out, ?_, ?_, HB.out.setCell HG1.out _⟩
        · rw [show intsV (P.set m (-1)) = (intsV P).set m (.int .i64 (-1)) by simp [intsV, List.map_set]]
          simpa using (HO.out.stored m (.int .i64 (-1))).1
        · refine own_kept HOA.out fun k hk => heap_setCell_other _ _ _ _ ?_
          rintro rfl
          exact own_two HO.out HOA.out rfl hk (by decide)
      case measure => simp [intOf]; omega
    · clear ho
      go_wp2_with fail
      obtain ⟨wo, rfl⟩ : ∃ wo : World, wo = wr := ⟨_, rfl⟩
      go_loopw [18] (fun i wi => ∃ (m : Nat) (P : List Pair), m ≤ A.length ∧ i = .int .i64 m ∧ P.length = A.length ∧ wi.ownsRow w.heap.size 81 2 (.slice a2 A.length c2) A.length (pairsV P) ∧ Below w.heap.size w wi) (fun i _ => A.length - (intOf i).toNat)
      case atStart => exact ⟨0, A, Nat.zero_le _, rfl, rfl, HOA.out, HB.out⟩
      case round =>
        obtain ⟨m, P, hm, rfl, hP, ho, hb⟩ := hrel
        have HO := Lib.hid ho
        have HP := Lib.hid hP
        have HB := Lib.hid hb
        clear hP hb
        by_cases hmt : m < A.length
        · have hmL : m < P.length := by rw [HP.out]; exact hmt
          obtain ⟨g1, cap1, he1, hg1, _, _⟩ := own_some ho (by omega)
          injection he1 with e1 e2 e3
          subst e1
          have g2 := (own_row ho).cell (pairsV_get0 P m hmL)
          have g3 := (own_row ho).cell (pairsV_get1 P m hmL)
          have f2 : wr.frozen? ⟨g1, m * 2, none⟩ = false := ho.frozenAt _
          have f3 : wr.frozen? ⟨g1, m * 2 + 1, none⟩ = false := ho.frozenAt _
          have HG1 := Lib.hid hg1
          clear ho e3 hg1 e2
          go_wp2_with fail
          go_roundw
          case rel =>
            refine ⟨m + 1, P.set m (⟨#[33]⟩, ⟨#[]⟩), by omega, by go_num, by rw [List.length_set]; exact HP.out, ?_, (HB.out.setCell HG1.out _).setCell HG1.out _⟩
            rw [← pairsV_set]
            exact ((HO.out.stored (m * 2) _).1.stored (m * 2 + 1) _).1
          case measure => simp [intOf]; omega
        · have HPc := Lib.hid (HParQ.out _ (HT.out.below HB.out))
          have HIc := Lib.hid (HIsQ.out _ (HT.out.below HB.out))
          clear ho
          go_wp2_with (first | (go_at_call 21; go_must (refine HPc.out.mono ?_; rintro e v1 ⟨rfl, rfl⟩)) | (go_at_call 61; go_must (refine HIc.out.mono ?_; rintro e v1 ⟨rfl, rfl⟩)))
          go_ret
          exact ⟨rfl, HB.out⟩

set_option maxRecDepth 100000 in
set_option maxHeartbeats 8000000 in
theorem alike_root (T : TreeD) (F1 F2 : Nat → Prop) (tb g rb gn gk : Nat) (w : World)  (hw : WF T) (hlen : T.nodes.length ≤ 1000000) (hat : ∀ i (h : i < T.nodes.length), T.nodes[i].attrs.length ≤ 1048576) (h : TreeO w tb g (farW F1 T)) (hR : RefO w rb gn gk (farW F2 T)) :
    Calls Try.prog 23 #[.pointer (some ⟨tb, 0, none⟩), .pointer (some ⟨rb, 0, none⟩), .int .i64 0] w fun e w' => e = .returned (.bool true) ∧ Below w.heap.size w w' := by
  have hel : elemF T 0 = false := by simp [elemF, isF]
  have hlt : 0 < T.nodes.length := hw.pos
  obtain ⟨K, hKe⟩ : ∃ K, K = kidsF T (0 : Nat) := ⟨_, rfl⟩
  have hq : kidsQ T 0 = K := by rw [kidsQ, if_pos (by omega), hKe]; rfl
  have hpa : (if isF T 0 then parentF T 0 else -1) = -1 := by rw [show isF T 0 = false by simp [isF]]; rfl
  obtain ⟨q1, q2, q3⟩ := what_no hel
  obtain ⟨A, hA⟩ : ∃ A : List Pair, A = [] := ⟨_, rfl⟩
  have hkl : ∀ i (h : i < (farW F1 T).nodes.length), (farW F1 T).nodes[i].kids.length ≤ 2097152 := fun j hj => by
    have := kids_short hw j hj
    rw [kidsF_of T j hj] at this
    show T.nodes[j].kids.length ≤ _
    omega
  have hKQ : ∀ u, TreeO u tb g (farW F1 T) → Calls Try.prog 13 #[.pointer (some ⟨tb, 0, none⟩), .int .i64 0] u fun e w' => ∃ v, e = .returned v ∧ w'.ownsRow u.heap.size 3 1 v K.length (intsV K) ∧ Below u.heap.size u w' := fun u hu => by
    have := kids_any (farW F1 T) tb g u 0 hu hkl
    rw [show kidsQ (farW F1 T) 0 = K from hq] at this
    exact this
  have hWQ : ∀ u, TreeO u tb g (farW F1 T) → Calls Try.prog 43 #[.pointer (some ⟨tb, 0, none⟩), .int .i64 0] u fun e w' => ∃ v, e = .returned (.tuple #[.int .i64 0, .string ⟨#[]⟩, v]) ∧ w'.ownsRow u.heap.size 81 2 v A.length (pairsV A) ∧ Below u.heap.size u w' := fun u hu => by
    have := What_any (farW F1 T) tb g u 0 hat hu
    rw [show spaceQ (farW F1 T) 0 = _ from q1, show nameQ (farW F1 T) 0 = _ from q2, show attrsQ (farW F1 T) 0 = _ from q3, ← hA] at this
    exact this
  have hParQ : ∀ u, TreeO u tb g (farW F1 T) → Calls Try.prog 21 #[.pointer (some ⟨tb, 0, none⟩), .int .i64 0] u fun e w' => e = .returned (.int .i64 (-1)) ∧ u = w' := fun u hu => by
    have := parent_any (farW F1 T) tb g u 0 hu
    rw [show (if isF (farW F1 T) 0 then parentF (farW F1 T) 0 else -1) = -1 from hpa] at this
    exact this
  have hIsQ : ∀ u, TreeO u tb g (farW F1 T) → Calls Try.prog 61 #[.pointer (some ⟨tb, 0, none⟩), .int .i64 0] u fun e w' => e = .returned (.bool false) ∧ u = w' := fun u hu => by
    have := Is_any (farW F1 T) tb g u 0 hu
    rw [show elemF (farW F1 T) 0 = false from hel] at this
    exact this
  have HLen := Lib.hid (rlen_any (farW F2 T) rb gn gk w hR)
  have hE := relem_any (farW F2 T) rb gn gk w 0 hR
  rw [show elemF (farW F2 T) 0 = false from hel] at hE
  have HE := Lib.hid hE
  obtain ⟨capn, capk, p1, p2, p3, p4, c0, c1, _, _, _, _⟩ := hR.head
  obtain ⟨ka, kc, kk1, kk2, _, hKA, dk, _⟩ := hR.kidc hlt
  have hkn := kids_short hw 0 hlt
  have HKA := Lib.hid hKA.at
  rw [show kidsF (farW F2 T) ((0 : Nat) : Int) = kidsF T (0 : Nat) from rfl, ← hKe] at dk kk1 HKA
  rw [← hKe] at hkn
  have HKE := Lib.hid hKe
  have HT := Lib.hid h
  have HKQ := Lib.hid (hKQ w h)
  have hA0 : ((A.length : Int) == 0) = true := by rw [hA]; rfl
  have hAs : A.length ≤ 1048576 := by rw [hA]; exact Nat.zero_le _
  simp only [farW] at p1 p3 c0 c1 HLen
  clear hKA hKe
  have HWQ := Lib.hid hWQ
  have HParQ := Lib.hid hParQ
  have HIsQ := Lib.hid hIsQ
  unfold maxLen at p2 p4
  unfold maxLen at kk2
  clear h hR hE hel q1 q2 q3 hq hpa hkl hKQ hWQ hat hw hIsQ hParQ hA
  go_enter Try.func23, Try.ntmps23
  go_wp2_with (first | (go_at_call 22; go_must (refine HLen.out.mono ?_; rintro e v1 ⟨rfl, rfl⟩)) | (go_at_call 60; go_must (refine HE.out.mono ?_; rintro e v1 ⟨rfl, rfl⟩)))
  refine HKQ.out.mono ?_
  rintro e w1 ⟨v1, rfl, ho1, hb1⟩
  obtain ⟨a1, c1', rfl, _, _, _, hat1⟩ := own_at ho1
  have HI := Lib.hid (ints_eq K a1 ka K.length K.length c1' kc w1 rfl rfl (by unfold maxLen; omega) hat1 (HKA.out.below hb1))
  have O1 := Lib.hid ho1
  have B1 := Lib.hid hb1
  clear ho1 hb1 hat1 HKQ
  go_wp2_with fail
  refine HI.out.mono ?_
  rintro e w2 ⟨rfl, hb2⟩
  have O2 := Lib.hid (own_below O1.out hb2)
  have B2 := Lib.hid (belowCall B1.out hb2)
  have HW := Lib.hid (HWQ.out w2 (HT.out.below B2.out))
  clear hb2 HI O1 B1
  go_wp2_with fail
  refine HW.out.mono ?_
  rintro e w3 ⟨v3, rfl, ho3, hb3⟩
  obtain ⟨a2, c2, rfl, _, _, _, hat3⟩ := own_at ho3
  have OK := Lib.hid (own_below O2.out hb3)
  have BB := Lib.hid (belowCall B2.out hb3)
  have OA := Lib.hid (own_more (B := w.heap.size) ho3 B2.out.size)
  clear dk
  clear hb3 ho3 hat3 HW O2 B2 c0 c1
  generalize c1' = c1 at *
  go_wp2_with fail
  go_loopw [17] (fun i wi => ∃ (m : Nat) (P : List Int), m ≤ K.length ∧ i = .int .i64 m ∧ P.length = K.length ∧ wi.ownsRow w.heap.size 3 1 (.slice a1 K.length c1) K.length (intsV P) ∧ wi.ownsRow w.heap.size 81 2 (.slice a2 A.length c2) A.length (pairsV A) ∧ Below w.heap.size w wi) (fun i _ => K.length - (intOf i).toNat)
  case atStart => exact ⟨0, K, Nat.zero_le _, rfl, rfl, OK.out, OA.out, BB.out⟩
  case round =>
    obtain ⟨m, P, hm, rfl, hP, ho, hoa, hb⟩ := hrel
    have HO := Lib.hid ho
    have HOA := Lib.hid hoa
    have HP := Lib.hid hP
    have HB := Lib.hid hb
    clear hP hoa hb
    by_cases hmt : m < K.length
    · have hmL : m < P.length := by rw [HP.out]; exact hmt
      obtain ⟨g1, cap1, he1, hg1, _, _⟩ := own_some ho (by omega)
      injection he1 with e1 e2 e3
      subst e1
      have g2 := (own_row ho).cell (intsV_get P m hmL)
      have f2 : wr.frozen? ⟨g1, m, none⟩ = false := ho.frozenAt _
      have HG1 := Lib.hid hg1
      clear ho e3 hg1 e2
      go_wp2_with fail
      go_roundw
      case rel =>
        refine ⟨m + 1, P.set m (-1), by omega, by go_num, by rw [List.length_set]; exact HP.out, ?_, ?_, HB.out.setCell HG1.out _⟩
        · rw [show intsV (P.set m (-1)) = (intsV P).set m (.int .i64 (-1)) by simp [intsV, List.map_set]]
          simpa using (HO.out.stored m (.int .i64 (-1))).1
        · refine own_kept HOA.out fun k hk => heap_setCell_other _ _ _ _ ?_
          rintro rfl
          exact own_two HO.out HOA.out rfl hk (by decide)
      case measure => simp [intOf]; omega
    · clear ho
      go_wp2_with fail
      obtain ⟨wo, rfl⟩ : ∃ wo : World, wo = wr := ⟨_, rfl⟩
      go_loopw [18] (fun i wi => ∃ (m : Nat) (P : List Pair), m ≤ A.length ∧ i = .int .i64 m ∧ P.length = A.length ∧ wi.ownsRow w.heap.size 81 2 (.slice a2 A.length c2) A.length (pairsV P) ∧ Below w.heap.size w wi) (fun i _ => A.length - (intOf i).toNat)
      case atStart => exact ⟨0, A, Nat.zero_le _, rfl, rfl, HOA.out, HB.out⟩
      case round =>
        obtain ⟨m, P, hm, rfl, hP, ho, hb⟩ := hrel
        have HO := Lib.hid ho
        have HP := Lib.hid hP
        have HB := Lib.hid hb
        clear hP hb
        by_cases hmt : m < A.length
        · have hmL : m < P.length := by rw [HP.out]; exact hmt
          obtain ⟨g1, cap1, he1, hg1, _, _⟩ := own_some ho (by omega)
          injection he1 with e1 e2 e3
          subst e1
          have g2 := (own_row ho).cell (pairsV_get0 P m hmL)
          have g3 := (own_row ho).cell (pairsV_get1 P m hmL)
          have f2 : wr.frozen? ⟨g1, m * 2, none⟩ = false := ho.frozenAt _
          have f3 : wr.frozen? ⟨g1, m * 2 + 1, none⟩ = false := ho.frozenAt _
          have HG1 := Lib.hid hg1
          clear ho e3 hg1 e2
          go_wp2_with fail
          go_roundw
          case rel =>
            refine ⟨m + 1, P.set m (⟨#[33]⟩, ⟨#[]⟩), by omega, by go_num, by rw [List.length_set]; exact HP.out, ?_, (HB.out.setCell HG1.out _).setCell HG1.out _⟩
            rw [← pairsV_set]
            exact ((HO.out.stored (m * 2) _).1.stored (m * 2 + 1) _).1
          case measure => simp [intOf]; omega
        · have HPc := Lib.hid (HParQ.out _ (HT.out.below HB.out))
          have HIc := Lib.hid (HIsQ.out _ (HT.out.below HB.out))
          clear ho
          go_wp2_with (first | (go_at_call 21; go_must (refine HPc.out.mono ?_; rintro e v1 ⟨rfl, rfl⟩)) | (go_at_call 61; go_must (refine HIc.out.mono ?_; rintro e v1 ⟨rfl, rfl⟩)))
          go_ret
          exact ⟨rfl, HB.out⟩

set_option maxRecDepth 100000 in
set_option maxHeartbeats 8000000 in
theorem alike_none (T : TreeD) (F1 F2 : Nat → Prop) (tb g rb gn gk : Nat) (w : World) (n : Int) (hn : n < 0 ∨ (T.nodes.length : Int) ≤ n) (hw : WF T) (hlen : T.nodes.length ≤ 1000000) (hat : ∀ i (h : i < T.nodes.length), T.nodes[i].attrs.length ≤ 1048576) (h : TreeO w tb g (farW F1 T)) (hR : RefO w rb gn gk (farW F2 T)) :
    Calls Try.prog 23 #[.pointer (some ⟨tb, 0, none⟩), .pointer (some ⟨rb, 0, none⟩), .int .i64 n] w fun e w' => e = .returned (.bool true) ∧ Below w.heap.size w w' := by
  have hpos := hw.pos
  have hif : isF T n = false := by simp [isF]; omega
  have hel : elemF T n = false := by rw [elemF, hif]; rfl
  obtain ⟨K, hKe⟩ : ∃ K : List Int, K = [] := ⟨_, rfl⟩
  have hq : kidsQ T n = K := by rw [kidsQ, if_neg (by omega), hKe]
  have hpa : (if isF T n then parentF T n else -1) = -1 := by rw [hif]; rfl
  obtain ⟨q1, q2, q3⟩ := what_no hel
  obtain ⟨A, hA⟩ : ∃ A : List Pair, A = [] := ⟨_, rfl⟩
  have hkl : ∀ i (h : i < (farW F1 T).nodes.length), (farW F1 T).nodes[i].kids.length ≤ 2097152 := fun j hj => by
    have := kids_short hw j hj
    rw [kidsF_of T j hj] at this
    show T.nodes[j].kids.length ≤ _
    omega
  have hKQ : ∀ u, TreeO u tb g (farW F1 T) → Calls Try.prog 13 #[.pointer (some ⟨tb, 0, none⟩), .int .i64 n] u fun e w' => ∃ v, e = .returned v ∧ w'.ownsRow u.heap.size 3 1 v K.length (intsV K) ∧ Below u.heap.size u w' := fun u hu => by
    have := kids_any (farW F1 T) tb g u n hu hkl
    rw [show kidsQ (farW F1 T) n = K from hq] at this
    exact this
  have hWQ : ∀ u, TreeO u tb g (farW F1 T) → Calls Try.prog 43 #[.pointer (some ⟨tb, 0, none⟩), .int .i64 n] u fun e w' => ∃ v, e = .returned (.tuple #[.int .i64 0, .string ⟨#[]⟩, v]) ∧ w'.ownsRow u.heap.size 81 2 v A.length (pairsV A) ∧ Below u.heap.size u w' := fun u hu => by
    have := What_any (farW F1 T) tb g u n hat hu
    rw [show spaceQ (farW F1 T) n = _ from q1, show nameQ (farW F1 T) n = _ from q2, show attrsQ (farW F1 T) n = _ from q3, ← hA] at this
    exact this
  have hParQ : ∀ u, TreeO u tb g (farW F1 T) → Calls Try.prog 21 #[.pointer (some ⟨tb, 0, none⟩), .int .i64 n] u fun e w' => e = .returned (.int .i64 (-1)) ∧ u = w' := fun u hu => by
    have := parent_any (farW F1 T) tb g u n hu
    rw [show (if isF (farW F1 T) n then parentF (farW F1 T) n else -1) = -1 from hpa] at this
    exact this
  have hIsQ : ∀ u, TreeO u tb g (farW F1 T) → Calls Try.prog 61 #[.pointer (some ⟨tb, 0, none⟩), .int .i64 n] u fun e w' => e = .returned (.bool false) ∧ u = w' := fun u hu => by
    have := Is_any (farW F1 T) tb g u n hu
    rw [show elemF (farW F1 T) n = false from hel] at this
    exact this
  have HLen := Lib.hid (rlen_any (farW F2 T) rb gn gk w hR)
  have hE := relem_any (farW F2 T) rb gn gk w n hR
  rw [show elemF (farW F2 T) n = false from hel] at hE
  have HE := Lib.hid hE
  obtain ⟨capn, capk, p1, p2, p3, p4, c0, c1, _, _, _, _⟩ := hR.head
  have HKE := Lib.hid hKe
  have HKl := Lib.hid (show 0 = K.length by rw [hKe]; rfl)
  have hkn : K.length ≤ 1000000 := by rw [hKe]; exact Nat.zero_le _
  have HKA := Lib.hid (show At w none (intsV K) by rw [hKe]; exact At.nil _ _)
  have HT := Lib.hid h
  have HKQ := Lib.hid (hKQ w h)
  have hA0 : ((A.length : Int) == 0) = true := by rw [hA]; rfl
  have hAs : A.length ≤ 1048576 := by rw [hA]; exact Nat.zero_le _
  simp only [farW] at p1 p3 c0 c1 HLen
  clear hKe hif
  have HWQ := Lib.hid hWQ
  have HParQ := Lib.hid hParQ
  have HIsQ := Lib.hid hIsQ
  unfold maxLen at p2 p4
  have hN0 : (n == 0) = false := by rw [beq_eq_false_iff_ne]; omega
  have hN2 : n < 1 ∨ (1 ≤ n ∧ ¬ (n ≤ (T.nodes.length : Int) - 1)) := by omega
  clear hn
  clear h hR hE hel q1 q2 q3 hq hpa hkl hKQ hWQ hat hw hIsQ hParQ hA
  rcases hN2 with hN2 | ⟨hN2, hN3⟩
  all_goals
    go_enter Try.func23, Try.ntmps23
    go_wp2_with (first | (go_at_call 22; go_must (refine HLen.out.mono ?_; rintro e v1 ⟨rfl, rfl⟩)) | (go_at_call 60; go_must (refine HE.out.mono ?_; rintro e v1 ⟨rfl, rfl⟩)))
    refine HKQ.out.mono ?_
    rintro e w1 ⟨v1, rfl, ho1, hb1⟩
    obtain ⟨a1, c1', rfl, _, _, _, hat1⟩ := own_at ho1
    have HI := Lib.hid (ints_eq K a1 none K.length 0 c1' 0 w1 rfl HKl.out (by unfold maxLen; omega) hat1 (HKA.out.below hb1))
    have O1 := Lib.hid ho1
    have B1 := Lib.hid hb1
    clear ho1 hb1 hat1 HKQ
    go_wp2_with fail
    refine HI.out.mono ?_
    rintro e w2 ⟨rfl, hb2⟩
    have O2 := Lib.hid (own_below O1.out hb2)
    have B2 := Lib.hid (belowCall B1.out hb2)
    have HW := Lib.hid (HWQ.out w2 (HT.out.below B2.out))
    clear hb2 HI O1 B1
    go_wp2_with fail
    refine HW.out.mono ?_
    rintro e w3 ⟨v3, rfl, ho3, hb3⟩
    obtain ⟨a2, c2, rfl, _, _, _, hat3⟩ := own_at ho3
    have OK := Lib.hid (own_below O2.out hb3)
    have BB := Lib.hid (belowCall B2.out hb3)
    have OA := Lib.hid (own_more (B := w.heap.size) ho3 B2.out.size)
    clear hb3 ho3 hat3 HW O2 B2 c0 c1
    generalize c1' = c1 at *
    go_wp2_with fail
    go_loopw [17] (fun i wi => ∃ (m : Nat) (P : List Int), m ≤ K.length ∧ i = .int .i64 m ∧ P.length = K.length ∧ wi.ownsRow w.heap.size 3 1 (.slice a1 K.length c1) K.length (intsV P) ∧ wi.ownsRow w.heap.size 81 2 (.slice a2 A.length c2) A.length (pairsV A) ∧ Below w.heap.size w wi) (fun i _ => K.length - (intOf i).toNat)
    case atStart => exact ⟨0, K, Nat.zero_le _, rfl, rfl, OK.out, OA.out, BB.out⟩
    case round =>
      obtain ⟨m, P, hm, rfl, hP, ho, hoa, hb⟩ := hrel
      have HO := Lib.hid ho
      have HOA := Lib.hid hoa
      have HP := Lib.hid hP
      have HB := Lib.hid hb
      clear hP hoa hb
      by_cases hmt : m < K.length
      · have hmL : m < P.length := by rw [HP.out]; exact hmt
        obtain ⟨g1, cap1, he1, hg1, _, _⟩ := own_some ho (by omega)
        injection he1 with e1 e2 e3
        subst e1
        have g2 := (own_row ho).cell (intsV_get P m hmL)
        have f2 : wr.frozen? ⟨g1, m, none⟩ = false := ho.frozenAt _
        have HG1 := Lib.hid hg1
        clear ho e3 hg1 e2
        go_wp2_with fail
        go_roundw
        case rel =>
          refine ⟨m + 1, P.set m (-1), by omega, by go_num, by rw [List.length_set]; exact HP.out, ?_, ?_, HB.out.setCell HG1.out _⟩
          · rw [show intsV (P.set m (-1)) = (intsV P).set m (.int .i64 (-1)) by simp [intsV, List.map_set]]
            simpa using (HO.out.stored m (.int .i64 (-1))).1
          · refine own_kept HOA.out fun k hk => heap_setCell_other _ _ _ _ ?_
            rintro rfl
            exact own_two HO.out HOA.out rfl hk (by decide)
        case measure => simp [intOf]; omega
      · clear ho
        go_wp2_with fail
        obtain ⟨wo, rfl⟩ : ∃ wo : World, wo = wr := ⟨_, rfl⟩
        go_loopw [18] (fun i wi => ∃ (m : Nat) (P : List Pair), m ≤ A.length ∧ i = .int .i64 m ∧ P.length = A.length ∧ wi.ownsRow w.heap.size 81 2 (.slice a2 A.length c2) A.length (pairsV P) ∧ Below w.heap.size w wi) (fun i _ => A.length - (intOf i).toNat)
        case atStart => exact ⟨0, A, Nat.zero_le _, rfl, rfl, HOA.out, HB.out⟩
        case round =>
          obtain ⟨m, P, hm, rfl, hP, ho, hb⟩ := hrel
          have HO := Lib.hid ho
          have HP := Lib.hid hP
          have HB := Lib.hid hb
          clear hP hb
          by_cases hmt : m < A.length
          · have hmL : m < P.length := by rw [HP.out]; exact hmt
            obtain ⟨g1, cap1, he1, hg1, _, _⟩ := own_some ho (by omega)
            injection he1 with e1 e2 e3
            subst e1
            have g2 := (own_row ho).cell (pairsV_get0 P m hmL)
            have g3 := (own_row ho).cell (pairsV_get1 P m hmL)
            have f2 : wr.frozen? ⟨g1, m * 2, none⟩ = false := ho.frozenAt _
            have f3 : wr.frozen? ⟨g1, m * 2 + 1, none⟩ = false := ho.frozenAt _
            have HG1 := Lib.hid hg1
            clear ho e3 hg1 e2
            go_wp2_with fail
            go_roundw
            case rel =>
              refine ⟨m + 1, P.set m (⟨#[33]⟩, ⟨#[]⟩), by omega, by go_num, by rw [List.length_set]; exact HP.out, ?_, (HB.out.setCell HG1.out _).setCell HG1.out _⟩
              rw [← pairsV_set]
              exact ((HO.out.stored (m * 2) _).1.stored (m * 2 + 1) _).1
            case measure => simp [intOf]; omega
          · have HPc := Lib.hid (HParQ.out _ (HT.out.below HB.out))
            have HIc := Lib.hid (HIsQ.out _ (HT.out.below HB.out))
            clear ho
            go_wp2_with (first | (go_at_call 21; go_must (refine HPc.out.mono ?_; rintro e v1 ⟨rfl, rfl⟩)) | (go_at_call 61; go_must (refine HIc.out.mono ?_; rintro e v1 ⟨rfl, rfl⟩)))
            go_ret
            exact ⟨rfl, HB.out⟩

end Go.Proofs.Ytidbihdnginmcaa

/-
  The walk of OpenTrees: the steps are done on both trees; then both tell the same of every number. (Its list of steps, its texts and attributes within the bound.)
-/
namespace Go.Proofs.Ytidbihdnginmcaa
open Go.RowKit Mem

theorem readN_farW (F : Nat → Prop) (T : TreeD) (D : Nat) (n : Int) : readN D (farW F T) n = readN D T n := by
  have h : ∀ (d : Nat) (m : Int), readN d (farW F T) m = readN d T m := by
    intro d
    induction d with
    | zero => intro m; rfl
    | succ d ih =>
      intro m
      have h3 : readN d (farW F T) = readN d T := funext ih
      simp only [readN, h3]
      rfl
  exact h D n
theorem read_farW (F : Nat → Prop) (T : TreeD) (D : Nat) (n : Int) : readQ D (farW F T) n = readQ D T n := by
  rw [readQ, readQ, readN_farW]
  rfl
theorem deep_farW (F : Nat → Prop) (T : TreeD) : ∀ (D : Nat) (n : Int), Deep D T n → Deep D (farW F T) n
  | 0, _, h => h.elim
  | D + 1, _, h => fun x hx => deep_farW F T D x (h x hx)
theorem alike_any (T : TreeD) (F1 F2 : Nat → Prop) (tb g rb gn gk : Nat) (w : World) (n : Int) (hw : WF T) (hlen : T.nodes.length ≤ 1000000) (hat : ∀ i (h : i < T.nodes.length), T.nodes[i].attrs.length ≤ 1048576) (h : TreeO w tb g (farW F1 T)) (hR : RefO w rb gn gk (farW F2 T)) :
    Calls Try.prog 23 #[.pointer (some ⟨tb, 0, none⟩), .pointer (some ⟨rb, 0, none⟩), .int .i64 n] w fun e w' => e = .returned (.bool true) ∧ Below w.heap.size w w' := by
  by_cases hn : n < 0 ∨ (T.nodes.length : Int) ≤ n
  · exact alike_none T F1 F2 tb g rb gn gk w n hn hw hlen hat h hR
  · obtain ⟨i, rfl⟩ := Int.eq_ofNat_of_zero_le (by omega : 0 ≤ n)
    have hlt : i < T.nodes.length := by omega
    by_cases h0 : i = 0
    · subst h0
      exact alike_root T F1 F2 tb g rb gn gk w hw hlen hat h hR
    · cases he : T.nodes[i].elem
      · exact alike_text T F1 F2 tb g rb gn gk w i hlt (by omega) he hw hlen hat h hR
      · exact alike_elem T F1 F2 tb g rb gn gk w i hlt (by omega) he hw hlen hat h hR

set_option maxRecDepth 100000 in
set_option maxHeartbeats 16000000 in
theorem trees_main (most : Int) (hm : most ≤ 5000) (l : List OpD) (a : Option Addr) (c : Nat) (hl : l.length ≤ 1048576) (hs : ∀ k (h : k < l.length), l[k].s.size ≤ 1048576 ∧ l[k].attrs.length ≤ 1048576) (_hc : l.length ≤ c) (_hcm : c ≤ maxLen) {w : World} (ha : OpsAt w a l) :
    Calls Try.prog 4 #[.int .i64 most, .slice a l.length c] w fun e w' => e = .returned (.bool true) ∧ Below w.heap.size w w' := by
  have HA := Lib.hid ha
  have HS := Lib.hid hs
  have hm2 : ¬ (5000 < most) := by omega
  unfold maxLen at _hcm
  clear ha hs
  go_enter Try.func4, Try.ntmps4
  go_wp2_with fail
  refine (shown14_any _).mono ?_
  rintro e w1 ⟨rfl, hb1⟩
  have HB1 := Lib.hid hb1
  have HNew := Lib.hid (New_tx (ex := fun _ => False) most (by omega) (fun _ h => h.elim) hb1)
  clear hb1
  go_wp2_with fail
  refine HNew.out.mono ?_
  rintro e w2 ⟨tb, rfl, hT2, hb2⟩
  have HT2 := Lib.hid hT2
  have HRN := Lib.hid (rNew_ri w w2 most (by omega) (fun k => w.heap.size ≤ k ∧ k < w2.heap.size) (fun _ h => h.2) hT2.below)
  clear hT2 hb2 HNew HB1
  go_wp2_with fail
  refine HRN.out.mono ?_
  rintro e w3 ⟨rb, rfl, hR3, hb3⟩
  have HD3 := Lib.hid (DT.start HT2.out hR3 hb3)
  clear hR3 hb3 HRN HT2
  go_wp2_with fail
  go_loopw [8] (fun i wr => ∃ k : Nat, k ≤ l.length ∧ i = .int .i64 k ∧ ∃ T, DT w (k * 1048576) (k * 1048576) tb rb T T (fun _ => False) wr) (fun i _ => l.length - (intOf i).toNat)
  case atStart => exact ⟨0, Nat.zero_le _, rfl, _, HD3.out.more (Nat.zero_le _) (Nat.zero_le _)⟩
  case round =>
    obtain ⟨k, hk, rfl, T, hT⟩ := hrel
    have HT := Lib.hid hT
    clear hT HD3
    by_cases hlt : k < l.length
    · obtain ⟨b, o, aa, ac, rfl, p1, p2, p3⟩ := HA.out.ops k hlt
      have hbw := HT.out.below
      have d0 := cell_later hbw (p3 0 _ rfl)
      have d1 := cell_later hbw (p3 1 _ rfl)
      have d2 := cell_later hbw (p3 2 _ rfl)
      have d3 := cell_later hbw (p3 3 _ rfl)
      have d4 := cell_later hbw (p3 4 _ rfl)
      have d5 := cell_later hbw (p3 5 _ rfl)
      rw [Nat.add_zero] at d0
      obtain ⟨q1, q2⟩ := HS.out k hlt
      have HP2 : AtF (fun k => w.heap.size ≤ k) wr aa (pairsV l[k].attrs) := (p2.other (fun b hb hx => by omega)).kept (Keeps.ofBelow hbw)
      have HC := Lib.hid (run_any (B' := (k + 1) * 1048576) (C' := (k + 1) * 1048576) HT.out l[k] aa ac p1 q2 HP2 (by omega) (by omega) (by omega) (by omega))
      generalize l[k] = x at *
      clear p1 p2 p3 q1 q2 HP2 hbw
      go_wp2_with fail
      refine HC.out.mono ?_
      rintro e w4 ⟨rfl, h4, _⟩
      have H4 := Lib.hid h4
      obtain ⟨_, hl1, _⟩ := DI.left h4
      obtain ⟨g1, far1, ht1, _⟩ := hl1
      obtain ⟨_, hr1, _⟩ := DI.right h4
      obtain ⟨gn1, gk1, far2, ht2⟩ := hr1
      have HL1 := Lib.hid (show Calls Try.prog 20 #[.pointer (some ⟨tb, 0, none⟩)] w4 fun e w' => e = .returned (.int .i64 (((opT T x).nodes.length : Int) - 1)) ∧ w4 = w' from len_any (farW far1 (opT T x)) tb g1 w4 ht1.tree)
      have HL2 := Lib.hid (show Calls Try.prog 22 #[.pointer (some ⟨rb, 0, none⟩)] w4 fun e w' => e = .returned (.int .i64 (((opT T x).nodes.length : Int) - 1)) ∧ w4 = w' from rlen_any (farW far2 (opT T x)) rb gn1 gk1 w4 ht2.tree)
      clear h4 HC ht1 ht2
      go_wp2_with (first | (go_at_call 20; go_must (refine HL1.out.mono ?_; rintro e v1 ⟨rfl, rfl⟩)) | (go_at_call 22; go_must (refine HL2.out.mono ?_; rintro e v1 ⟨rfl, rfl⟩)))
      go_roundw
      case rel => exact ⟨k + 1, by omega, by go_num, _, H4.out⟩
      case measure => simp [intOf]; omega
    · obtain ⟨wA, rfl⟩ : ∃ wA : World, wA = wr := ⟨_, rfl⟩
      obtain ⟨_, hl1, _⟩ := DI.left HT.out
      obtain ⟨g, F1, hT1, _⟩ := hl1
      obtain ⟨_, hr1, _⟩ := DI.right HT.out
      obtain ⟨gn, gk, F2, hR1⟩ := hr1
      have HBA := Lib.hid HT.out.below
      have hlenT := hR1.len
      have hposT := hR1.wf.pos
      have HT1 := Lib.hid hT1.tree
      have HR1 := Lib.hid hR1.tree
      have HWF := Lib.hid hR1.wf
      have HAtt := Lib.hid hR1.att
      have HAtti := Lib.hid (show ∀ i (h : i < T.nodes.length), T.nodes[i].attrs.length ≤ 1048576 from fun _ _ => hR1.att _ (List.getElem_mem _))
      obtain ⟨D, hD⟩ := deep_all hR1.wf
      have HD := Lib.hid hD
      have HLn := Lib.hid (show ∀ u, Below wA.heap.size wA u → Calls Try.prog 22 #[.pointer (some ⟨rb, 0, none⟩)] u fun e w' => e = .returned (.int .i64 ((T.nodes.length : Int) - 1)) ∧ u = w' from fun u hu => rlen_any (farW F2 T) rb gn gk u (hR1.tree.below hu))
      clear hT1 hR1 hD HT HA HS
      generalize hNe : T.nodes.length = N at hlenT hposT HLn
      have HN := Lib.hid hNe
      clear hNe
      go_wp2_with fail
      go_loopw [10] (fun i wr => ∃ j : Nat, j ≤ N + 2 ∧ i = .int .i64 ((j : Int) - 1) ∧ Below wA.heap.size wA wr) (fun i _ => (N + 2 - (intOf i + 1)).toNat)
      case atStart => exact ⟨0, by omega, rfl, Below.refl _ _⟩
      case round =>
        obtain ⟨j, hj, rfl, hb⟩ := hrel
        have HB := Lib.hid hb
        by_cases hjt : j < N + 2
        · have hAl := alike_any T F1 F2 tb g rb gn gk wr ((j : Int) - 1) HWF.out (by have := HN.out; omega) HAtti.out (HT1.out.below hb) (HR1.out.below hb)
          have HAl := Lib.hid hAl
          have HLr := Lib.hid (HLn.out wr hb)
          have hle1 : (j : Int) - 1 ≤ (N : Int) - 1 + 1 := by omega
          have hle2 : (j : Int) - 1 ≤ (N : Int) := by omega
          have hle3 : (j : Int) ≤ (N : Int) + 1 := by omega
          clear hb hAl
          go_wp2_with (go_at_call 22; go_must (refine HLr.out.mono ?_; rintro e v1 ⟨rfl, rfl⟩))
          refine HAl.out.mono ?_
          rintro e w5 ⟨rfl, hb5⟩
          have hb5' := belowCall HB.out hb5
          have hRd := Read_any (farW F1 T) tb g w5 ((j : Int) - 1) (wf_far F1 HWF.out) (by have := HN.out; show T.nodes.length ≤ _; omega) HAtt.out D (fun i h1 h2 => deep_farW F1 T D i (HD.out i h1 h2)) (HT1.out.below hb5')
          rw [show readQ D (farW F1 T) ((j : Int) - 1) = readQ D T ((j : Int) - 1) from read_farW F1 T D _] at hRd
          obtain ⟨nx, hnx⟩ : ∃ nx : Int, nx = if isF T ((j : Int) - 1) then 0 else 47 := ⟨_, rfl⟩
          rw [show (if isF (farW F1 T) ((j : Int) - 1) then (0 : Int) else 47) = nx from hnx.symm] at hRd
          have HRd := Lib.hid hRd
          have HNX := Lib.hid hnx
          have HB5 := Lib.hid hb5'
          clear hRd hnx hb5 hb5' HAl HLr HB
          go_wp2_with fail
          refine HRd.out.mono ?_
          rintro e w6 ⟨cs, rfl, hcs, hb6⟩
          obtain ⟨f0, f1, f2, f3, f4, f5, f6, f7, f8, f9, rfl⟩ := nodeC_form hcs
          have hcN := hcs.other (G := Non) (fun b _ hb => hb.elim)
          unfold nodeV at hcN ⊢
          have hb7 := (Below.refl w6.heap.size w6).alloc (Nat.le_refl _) (.cells #[.int .i64 f0, .int .i64 f1, .string f2, .slice f3 f4 f5, .string f6, .slice f7 f8 f9] 36)
          have hX := heap_alloc_new w6 (.cells #[.int .i64 f0, .int .i64 f1, .string f2, .slice f3 f4 f5, .string f6, .slice f7 f8 f9] 36)
          have HCN := Lib.hid (hcN.kept (Keeps.ofBelow hb7))
          have HB7 := Lib.hid (belowCall HB5.out (belowCall hb6 hb7))
          have HX := Lib.hid hX
          have HL7 := Lib.hid (HLn.out _ HB7.out)
          clear hcs hcN hb6 hb7 hX HRd HB5
          cases hif : isF T ((j : Int) - 1)
          · obtain rfl : nx = 47 := by rw [HNX.out, hif]; rfl
            have hno : ¬ (1 ≤ (j : Int) - 1) ∨ (1 ≤ (j : Int) - 1 ∧ ¬ ((j : Int) - 1 ≤ (N : Int) - 1)) := by
              have := HN.out
              simp [isF] at hif
              omega
            clear hif
            rcases hno with hno | ⟨hno, hno2⟩
            all_goals
              go_wp2_with (go_at_call 22; go_must (refine HL7.out.mono ?_; rintro e v1 ⟨rfl, rfl⟩))
              go_roundw
              case rel => exact ⟨j + 1, by omega, by go_num, HB7.out⟩
              case measure => simp [intOf]; omega
          · obtain rfl : nx = 0 := by rw [HNX.out, hif]; rfl
            have hif2 := isF_lt hif
            obtain ⟨i, hi⟩ := Int.eq_ofNat_of_zero_le (by omega : 0 ≤ (j : Int) - 1)
            have hiN : i < N := by have := HN.out; omega
            have hi1 : 1 ≤ i := by omega
            have hyes : 1 ≤ (j : Int) - 1 := by omega
            have hyes2 : (j : Int) - 1 ≤ (N : Int) - 1 := by omega
            rw [show readQ D T ((j : Int) - 1) = readN D T ((j : Int) - 1) by rw [readQ, hif]; rfl] at HCN
            have HI := Lib.hid hi
            clear hif hif2 hi
            go_wp2_with (go_at_call 22; go_must (refine HL7.out.mono ?_; rintro e v1 ⟨rfl, rfl⟩))
            generalize w6.alloc (.cells #[.int .i64 f0, .int .i64 f1, .string f2, .slice f3 f4 f5, .string f6, .slice f7 f8 f9] 36) = w7 at *
            obtain ⟨⟨z0, z1, z2, z3, z4, z5⟩, _⟩ := cells6 HX.out
            have q0 : w7.drew.cell? ⟨w6.heap.size, 0, none⟩ = some (.int .i64 f0) := z0
            have q1 : w7.drew.cell? ⟨w6.heap.size, 1, none⟩ = some (.int .i64 f1) := z1
            have q2 : w7.drew.cell? ⟨w6.heap.size, 2, none⟩ = some (.string f2) := z2
            have q3 : w7.drew.cell? ⟨w6.heap.size, 3, none⟩ = some (.slice f3 f4 f5) := z3
            have q4 : w7.drew.cell? ⟨w6.heap.size, 4, none⟩ = some (.string f6) := z4
            have q5 : w7.drew.cell? ⟨w6.heap.size, 5, none⟩ = some (.slice f7 f8 f9) := z5
            have hbd := (Below.refl w7.heap.size w7).drew
            have hRr := rread_deep D (farW F2 T) rb gn gk w7.drew i (wf_far F2 HWF.out) (by have := HN.out; show T.nodes.length ≤ _; omega) HAtt.out hi1 (by have := HN.out; show i < T.nodes.length; omega) (deep_farW F2 T D i (HD.out i hi1 (by have := HN.out; omega))) ((HR1.out.below HB7.out).below hbd)
            rw [readN_farW, ← HI.out] at hRr
            have HRr := Lib.hid hRr
            have HCd := Lib.hid (HCN.out.kept (Keeps.ofBelow hbd))
            have HBd := Lib.hid (belowCall HB7.out hbd)
            clear hRr hbd z0 z1 z2 z3 z4 z5 HCN
            go_region_held3 (fun u => u.cell? ⟨w6.heap.size, 0, none⟩ = some (.int .i64 f0) ∧ u.cell? ⟨w6.heap.size, 1, none⟩ = some (.int .i64 f1) ∧ u.cell? ⟨w6.heap.size, 2, none⟩ = some (.string f2) ∧ u.cell? ⟨w6.heap.size, 3, none⟩ = some (.slice f3 f4 f5) ∧ u.cell? ⟨w6.heap.size, 4, none⟩ = some (.string f6) ∧ u.cell? ⟨w6.heap.size, 5, none⟩ = some (.slice f7 f8 f9))
              (first | exact ⟨q0, q1, q2, q3, q4, q5⟩ | exact ⟨r0, r1, r2, r3, r4, r5⟩ | exact ⟨t0, t1, t2, t3, t4, t5⟩)
              (first
                | (go_at_call 24; go_must (refine HRr.out.mono ?_; rintro e w8 ⟨ds, rfl, hds, hb8⟩; obtain ⟨g0, g1, g2, g3, g4, g5, g6, g7, g8, g9, rfl⟩ := nodeC_form hds; have r0 := cell_later hb8 q0; have r1 := cell_later hb8 q1; have r2 := cell_later hb8 q2; have r3 := cell_later hb8 q3; have r4 := cell_later hb8 q4; have r5 := cell_later hb8 q5; have HM8 := Lib.hid (hds.other (G := Non) (fun b _ hb => hb.elim)); have HC8 := Lib.hid (HCd.out.kept (Keeps.ofBelow hb8)); have HB8 := Lib.hid (belowCall HBd.out hb8); clear hds hb8; unfold nodeV at HM8 ⊢))
                | (go_at_call 19; go_must (refine (same_any _ _ _ _ _ (Nat.le_refl _) HC8.out HM8.out).mono ?_; rintro e w9 ⟨rfl, hb9⟩; have t0 := cell_later hb9 r0; have t1 := cell_later hb9 r1; have t2 := cell_later hb9 r2; have t3 := cell_later hb9 r3; have t4 := cell_later hb9 r4; have t5 := cell_later hb9 r5; have HB9 := Lib.hid (belowCall HB8.out hb9); clear hb9)))
            all_goals
              go_wp2_with fail
              go_roundw
              case rel => exact ⟨j + 1, by omega, by go_num, HB9.out⟩
              case measure => simp [intOf]; omega
        · obtain rfl : j = N + 2 := by omega
          have HLr := Lib.hid (HLn.out wr hb)
          have hgt : ¬ (((N + 2 : Nat) : Int) - 1 ≤ (N : Int) - 1 + 1) := by omega
          have HBf := Lib.hid (HBA.out.trans (hb.mono HBA.out.size))
          clear hb
          go_wp2_with (go_at_call 22; go_must (refine HLr.out.mono ?_; rintro e v1 ⟨rfl, rfl⟩))
          go_ret
          exact ⟨rfl, HBf.out⟩

set_option maxRecDepth 100000 in
set_option maxHeartbeats 16000000 in
theorem trees_big (most : Int) (hm : 5000 < most) (l : List OpD) (a : Option Addr) (c : Nat) (hl : l.length ≤ 1048576) (hs : ∀ k (h : k < l.length), l[k].s.size ≤ 1048576 ∧ l[k].attrs.length ≤ 1048576) (_hc : l.length ≤ c) (_hcm : c ≤ maxLen) {w : World} (ha : OpsAt w a l) :
    Calls Try.prog 4 #[.int .i64 most, .slice a l.length c] w fun e w' => e = .returned (.bool true) ∧ Below w.heap.size w w' := by
  have HA := Lib.hid ha
  have HS := Lib.hid hs
  unfold maxLen at _hcm
  clear ha hs
  go_enter Try.func4, Try.ntmps4
  go_wp2_with fail
  refine (shown14_any _).mono ?_
  rintro e w1 ⟨rfl, hb1⟩
  have HB1 := Lib.hid hb1
  have HNew := Lib.hid (New_tx (ex := fun _ => False) 5000 (by decide) (fun _ h => h.elim) hb1)
  clear hb1
  go_wp2_with fail
  refine HNew.out.mono ?_
  rintro e w2 ⟨tb, rfl, hT2, hb2⟩
  have HT2 := Lib.hid hT2
  have HRN := Lib.hid (rNew_ri w w2 5000 (by decide) (fun k => w.heap.size ≤ k ∧ k < w2.heap.size) (fun _ h => h.2) hT2.below)
  clear hT2 hb2 HNew HB1
  go_wp2_with fail
  refine HRN.out.mono ?_
  rintro e w3 ⟨rb, rfl, hR3, hb3⟩
  have HD3 := Lib.hid (DT.start HT2.out hR3 hb3)
  clear hR3 hb3 HRN HT2
  go_wp2_with fail
  go_loopw [8] (fun i wr => ∃ k : Nat, k ≤ l.length ∧ i = .int .i64 k ∧ ∃ T, DT w (k * 1048576) (k * 1048576) tb rb T T (fun _ => False) wr) (fun i _ => l.length - (intOf i).toNat)
  case atStart => exact ⟨0, Nat.zero_le _, rfl, _, HD3.out.more (Nat.zero_le _) (Nat.zero_le _)⟩
  case round =>
    obtain ⟨k, hk, rfl, T, hT⟩ := hrel
    have HT := Lib.hid hT
    clear hT HD3
    by_cases hlt : k < l.length
    · obtain ⟨b, o, aa, ac, rfl, p1, p2, p3⟩ := HA.out.ops k hlt
      have hbw := HT.out.below
      have d0 := cell_later hbw (p3 0 _ rfl)
      have d1 := cell_later hbw (p3 1 _ rfl)
      have d2 := cell_later hbw (p3 2 _ rfl)
      have d3 := cell_later hbw (p3 3 _ rfl)
      have d4 := cell_later hbw (p3 4 _ rfl)
      have d5 := cell_later hbw (p3 5 _ rfl)
      rw [Nat.add_zero] at d0
      obtain ⟨q1, q2⟩ := HS.out k hlt
      have HP2 : AtF (fun k => w.heap.size ≤ k) wr aa (pairsV l[k].attrs) := (p2.other (fun b hb hx => by omega)).kept (Keeps.ofBelow hbw)
      have HC := Lib.hid (run_any (B' := (k + 1) * 1048576) (C' := (k + 1) * 1048576) HT.out l[k] aa ac p1 q2 HP2 (by omega) (by omega) (by omega) (by omega))
      generalize l[k] = x at *
      clear p1 p2 p3 q1 q2 HP2 hbw
      go_wp2_with fail
      refine HC.out.mono ?_
      rintro e w4 ⟨rfl, h4, _⟩
      have H4 := Lib.hid h4
      obtain ⟨_, hl1, _⟩ := DI.left h4
      obtain ⟨g1, far1, ht1, _⟩ := hl1
      obtain ⟨_, hr1, _⟩ := DI.right h4
      obtain ⟨gn1, gk1, far2, ht2⟩ := hr1
      have HL1 := Lib.hid (show Calls Try.prog 20 #[.pointer (some ⟨tb, 0, none⟩)] w4 fun e w' => e = .returned (.int .i64 (((opT T x).nodes.length : Int) - 1)) ∧ w4 = w' from len_any (farW far1 (opT T x)) tb g1 w4 ht1.tree)
      have HL2 := Lib.hid (show Calls Try.prog 22 #[.pointer (some ⟨rb, 0, none⟩)] w4 fun e w' => e = .returned (.int .i64 (((opT T x).nodes.length : Int) - 1)) ∧ w4 = w' from rlen_any (farW far2 (opT T x)) rb gn1 gk1 w4 ht2.tree)
      clear h4 HC ht1 ht2
      go_wp2_with (first | (go_at_call 20; go_must (refine HL1.out.mono ?_; rintro e v1 ⟨rfl, rfl⟩)) | (go_at_call 22; go_must (refine HL2.out.mono ?_; rintro e v1 ⟨rfl, rfl⟩)))
      go_roundw
      case rel => exact ⟨k + 1, by omega, by go_num, _, H4.out⟩
      case measure => simp [intOf]; omega
    · obtain ⟨wA, rfl⟩ : ∃ wA : World, wA = wr := ⟨_, rfl⟩
      obtain ⟨_, hl1, _⟩ := DI.left HT.out
      obtain ⟨g, F1, hT1, _⟩ := hl1
      obtain ⟨_, hr1, _⟩ := DI.right HT.out
      obtain ⟨gn, gk, F2, hR1⟩ := hr1
      have HBA := Lib.hid HT.out.below
      have hlenT := hR1.len
      have hposT := hR1.wf.pos
      have HT1 := Lib.hid hT1.tree
      have HR1 := Lib.hid hR1.tree
      have HWF := Lib.hid hR1.wf
      have HAtt := Lib.hid hR1.att
      have HAtti := Lib.hid (show ∀ i (h : i < T.nodes.length), T.nodes[i].attrs.length ≤ 1048576 from fun _ _ => hR1.att _ (List.getElem_mem _))
      obtain ⟨D, hD⟩ := deep_all hR1.wf
      have HD := Lib.hid hD
      have HLn := Lib.hid (show ∀ u, Below wA.heap.size wA u → Calls Try.prog 22 #[.pointer (some ⟨rb, 0, none⟩)] u fun e w' => e = .returned (.int .i64 ((T.nodes.length : Int) - 1)) ∧ u = w' from fun u hu => rlen_any (farW F2 T) rb gn gk u (hR1.tree.below hu))
      clear hT1 hR1 hD HT HA HS
      generalize hNe : T.nodes.length = N at hlenT hposT HLn
      have HN := Lib.hid hNe
      clear hNe
      go_wp2_with fail
      go_loopw [10] (fun i wr => ∃ j : Nat, j ≤ N + 2 ∧ i = .int .i64 ((j : Int) - 1) ∧ Below wA.heap.size wA wr) (fun i _ => (N + 2 - (intOf i + 1)).toNat)
      case atStart => exact ⟨0, by omega, rfl, Below.refl _ _⟩
      case round =>
        obtain ⟨j, hj, rfl, hb⟩ := hrel
        have HB := Lib.hid hb
        by_cases hjt : j < N + 2
        · have hAl := alike_any T F1 F2 tb g rb gn gk wr ((j : Int) - 1) HWF.out (by have := HN.out; omega) HAtti.out (HT1.out.below hb) (HR1.out.below hb)
          have HAl := Lib.hid hAl
          have HLr := Lib.hid (HLn.out wr hb)
          have hle1 : (j : Int) - 1 ≤ (N : Int) - 1 + 1 := by omega
          have hle2 : (j : Int) - 1 ≤ (N : Int) := by omega
          have hle3 : (j : Int) ≤ (N : Int) + 1 := by omega
          clear hb hAl
          go_wp2_with (go_at_call 22; go_must (refine HLr.out.mono ?_; rintro e v1 ⟨rfl, rfl⟩))
          refine HAl.out.mono ?_
          rintro e w5 ⟨rfl, hb5⟩
          have hb5' := belowCall HB.out hb5
          have hRd := Read_any (farW F1 T) tb g w5 ((j : Int) - 1) (wf_far F1 HWF.out) (by have := HN.out; show T.nodes.length ≤ _; omega) HAtt.out D (fun i h1 h2 => deep_farW F1 T D i (HD.out i h1 h2)) (HT1.out.below hb5')
          rw [show readQ D (farW F1 T) ((j : Int) - 1) = readQ D T ((j : Int) - 1) from read_farW F1 T D _] at hRd
          obtain ⟨nx, hnx⟩ : ∃ nx : Int, nx = if isF T ((j : Int) - 1) then 0 else 47 := ⟨_, rfl⟩
          rw [show (if isF (farW F1 T) ((j : Int) - 1) then (0 : Int) else 47) = nx from hnx.symm] at hRd
          have HRd := Lib.hid hRd
          have HNX := Lib.hid hnx
          have HB5 := Lib.hid hb5'
          clear hRd hnx hb5 hb5' HAl HLr HB
          go_wp2_with fail
          refine HRd.out.mono ?_
          rintro e w6 ⟨cs, rfl, hcs, hb6⟩
          obtain ⟨f0, f1, f2, f3, f4, f5, f6, f7, f8, f9, rfl⟩ := nodeC_form hcs
          have hcN := hcs.other (G := Non) (fun b _ hb => hb.elim)
          unfold nodeV at hcN ⊢
          have hb7 := (Below.refl w6.heap.size w6).alloc (Nat.le_refl _) (.cells #[.int .i64 f0, .int .i64 f1, .string f2, .slice f3 f4 f5, .string f6, .slice f7 f8 f9] 36)
          have hX := heap_alloc_new w6 (.cells #[.int .i64 f0, .int .i64 f1, .string f2, .slice f3 f4 f5, .string f6, .slice f7 f8 f9] 36)
          have HCN := Lib.hid (hcN.kept (Keeps.ofBelow hb7))
          have HB7 := Lib.hid (belowCall HB5.out (belowCall hb6 hb7))
          have HX := Lib.hid hX
          have HL7 := Lib.hid (HLn.out _ HB7.out)
          clear hcs hcN hb6 hb7 hX HRd HB5
          cases hif : isF T ((j : Int) - 1)
          · obtain rfl : nx = 47 := by rw [HNX.out, hif]; rfl
            have hno : ¬ (1 ≤ (j : Int) - 1) ∨ (1 ≤ (j : Int) - 1 ∧ ¬ ((j : Int) - 1 ≤ (N : Int) - 1)) := by
              have := HN.out
              simp [isF] at hif
              omega
            clear hif
            rcases hno with hno | ⟨hno, hno2⟩
            all_goals
              go_wp2_with (go_at_call 22; go_must (refine HL7.out.mono ?_; rintro e v1 ⟨rfl, rfl⟩))
              go_roundw
              case rel => exact ⟨j + 1, by omega, by go_num, HB7.out⟩
              case measure => simp [intOf]; omega
          · obtain rfl : nx = 0 := by rw [HNX.out, hif]; rfl
            have hif2 := isF_lt hif
            obtain ⟨i, hi⟩ := Int.eq_ofNat_of_zero_le (by omega : 0 ≤ (j : Int) - 1)
            have hiN : i < N := by have := HN.out; omega
            have hi1 : 1 ≤ i := by omega
            have hyes : 1 ≤ (j : Int) - 1 := by omega
            have hyes2 : (j : Int) - 1 ≤ (N : Int) - 1 := by omega
            rw [show readQ D T ((j : Int) - 1) = readN D T ((j : Int) - 1) by rw [readQ, hif]; rfl] at HCN
            have HI := Lib.hid hi
            clear hif hif2 hi
            go_wp2_with (go_at_call 22; go_must (refine HL7.out.mono ?_; rintro e v1 ⟨rfl, rfl⟩))
            generalize w6.alloc (.cells #[.int .i64 f0, .int .i64 f1, .string f2, .slice f3 f4 f5, .string f6, .slice f7 f8 f9] 36) = w7 at *
            obtain ⟨⟨z0, z1, z2, z3, z4, z5⟩, _⟩ := cells6 HX.out
            have q0 : w7.drew.cell? ⟨w6.heap.size, 0, none⟩ = some (.int .i64 f0) := z0
            have q1 : w7.drew.cell? ⟨w6.heap.size, 1, none⟩ = some (.int .i64 f1) := z1
            have q2 : w7.drew.cell? ⟨w6.heap.size, 2, none⟩ = some (.string f2) := z2
            have q3 : w7.drew.cell? ⟨w6.heap.size, 3, none⟩ = some (.slice f3 f4 f5) := z3
            have q4 : w7.drew.cell? ⟨w6.heap.size, 4, none⟩ = some (.string f6) := z4
            have q5 : w7.drew.cell? ⟨w6.heap.size, 5, none⟩ = some (.slice f7 f8 f9) := z5
            have hbd := (Below.refl w7.heap.size w7).drew
            have hRr := rread_deep D (farW F2 T) rb gn gk w7.drew i (wf_far F2 HWF.out) (by have := HN.out; show T.nodes.length ≤ _; omega) HAtt.out hi1 (by have := HN.out; show i < T.nodes.length; omega) (deep_farW F2 T D i (HD.out i hi1 (by have := HN.out; omega))) ((HR1.out.below HB7.out).below hbd)
            rw [readN_farW, ← HI.out] at hRr
            have HRr := Lib.hid hRr
            have HCd := Lib.hid (HCN.out.kept (Keeps.ofBelow hbd))
            have HBd := Lib.hid (belowCall HB7.out hbd)
            clear hRr hbd z0 z1 z2 z3 z4 z5 HCN
            go_region_held3 (fun u => u.cell? ⟨w6.heap.size, 0, none⟩ = some (.int .i64 f0) ∧ u.cell? ⟨w6.heap.size, 1, none⟩ = some (.int .i64 f1) ∧ u.cell? ⟨w6.heap.size, 2, none⟩ = some (.string f2) ∧ u.cell? ⟨w6.heap.size, 3, none⟩ = some (.slice f3 f4 f5) ∧ u.cell? ⟨w6.heap.size, 4, none⟩ = some (.string f6) ∧ u.cell? ⟨w6.heap.size, 5, none⟩ = some (.slice f7 f8 f9))
              (first | exact ⟨q0, q1, q2, q3, q4, q5⟩ | exact ⟨r0, r1, r2, r3, r4, r5⟩ | exact ⟨t0, t1, t2, t3, t4, t5⟩)
              (first
                | (go_at_call 24; go_must (refine HRr.out.mono ?_; rintro e w8 ⟨ds, rfl, hds, hb8⟩; obtain ⟨g0, g1, g2, g3, g4, g5, g6, g7, g8, g9, rfl⟩ := nodeC_form hds; have r0 := cell_later hb8 q0; have r1 := cell_later hb8 q1; have r2 := cell_later hb8 q2; have r3 := cell_later hb8 q3; have r4 := cell_later hb8 q4; have r5 := cell_later hb8 q5; have HM8 := Lib.hid (hds.other (G := Non) (fun b _ hb => hb.elim)); have HC8 := Lib.hid (HCd.out.kept (Keeps.ofBelow hb8)); have HB8 := Lib.hid (belowCall HBd.out hb8); clear hds hb8; unfold nodeV at HM8 ⊢))
                | (go_at_call 19; go_must (refine (same_any _ _ _ _ _ (Nat.le_refl _) HC8.out HM8.out).mono ?_; rintro e w9 ⟨rfl, hb9⟩; have t0 := cell_later hb9 r0; have t1 := cell_later hb9 r1; have t2 := cell_later hb9 r2; have t3 := cell_later hb9 r3; have t4 := cell_later hb9 r4; have t5 := cell_later hb9 r5; have HB9 := Lib.hid (belowCall HB8.out hb9); clear hb9)))
            all_goals
              go_wp2_with fail
              go_roundw
              case rel => exact ⟨j + 1, by omega, by go_num, HB9.out⟩
              case measure => simp [intOf]; omega
        · obtain rfl : j = N + 2 := by omega
          have HLr := Lib.hid (HLn.out wr hb)
          have hgt : ¬ (((N + 2 : Nat) : Int) - 1 ≤ (N : Int) - 1 + 1) := by omega
          have HBf := Lib.hid (HBA.out.trans (hb.mono HBA.out.size))
          clear hb
          go_wp2_with (go_at_call 22; go_must (refine HLr.out.mono ?_; rintro e v1 ⟨rfl, rfl⟩))
          go_ret
          exact ⟨rfl, HBf.out⟩
theorem law_OpenTrees (most : Int) (_ : (Lit.int IntKind.i64 most).wf = true) (l : List OpD) (a : Option Addr) (c : Nat) (hl : l.length ≤ 1048576) (hs : ∀ k (h : k < l.length), l[k].s.size ≤ 1048576 ∧ l[k].attrs.length ≤ 1048576) (hc : l.length ≤ c) (hcm : c ≤ maxLen) {w : World} (ha : OpsAt w a l) :
    Calls Try.prog 4 #[.int .i64 most, .slice a l.length c] w fun e w' => e = .returned (.bool true) ∧ Below w.heap.size w w' := by
  by_cases hm : most ≤ 5000
  · exact trees_main most hm l a c hl hs hc hcm ha
  · exact trees_big most (by omega) l a c hl hs hc hcm ha
end Go.Proofs.Ytidbihdnginmcaa
