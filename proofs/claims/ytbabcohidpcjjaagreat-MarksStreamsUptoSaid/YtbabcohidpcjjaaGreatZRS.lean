import Derived.Test.YtbabcohidpcjjaaGreatRows
import Derived.Test.YtbabcohidpcjjaaGreatZMem
import Derived.Deep.QuietTactic
import Derived.BigQuiet
import Derived.Deep.RegionWith
import Derived.Test.YtbabcohidpcjjaaGreatZMkAll
/-
  Contracts: colanderref13.SameAttrs: are two lists of attributes the same? The world stays but for draws.
-/
namespace Go.Proofs.YtbabcohidpcjjaaGreat
open Go.RowKit Mem

def samePairs : List Pair → List Pair → Bool
  | [], [] => true
  | p :: l, q :: r => if p = q then samePairs l r else false
  | _, _ => false
theorem samePairs_step (l r : List Pair) (k : Nat) (h1 : k < l.length) (h2 : k < r.length) (he : l[k] = r[k]) : samePairs (l.drop k) (r.drop k) = samePairs (l.drop (k + 1)) (r.drop (k + 1)) := by
  rw [List.drop_eq_getElem_cons h1, List.drop_eq_getElem_cons h2, samePairs, if_pos he]
theorem samePairs_miss (l r : List Pair) (k : Nat) (h1 : k < l.length) (h2 : k < r.length) (he : l[k] ≠ r[k]) : samePairs (l.drop k) (r.drop k) = false := by
  rw [List.drop_eq_getElem_cons h1, List.drop_eq_getElem_cons h2, samePairs, if_neg he]
theorem samePairs_len : ∀ (l r : List Pair), l.length ≠ r.length → samePairs l r = false
  | [], [], h => absurd rfl h
  | [], _ :: _, _ => rfl
  | _ :: _, [], _ => rfl
  | p :: l, q :: r, h => by
    rw [samePairs]
    split
    · exact samePairs_len l r (by simpa using h)
    · rfl
theorem samePairs_self : ∀ l, samePairs l l = true
  | [] => rfl
  | p :: l => by rw [samePairs, if_pos rfl]; exact samePairs_self l
theorem samePairs_eq : ∀ {l r}, samePairs l r = true → l = r
  | [], [], _ => rfl
  | p :: l, q :: r, h => by
    rw [samePairs] at h
    split at h
    · rename_i e; subst e; rw [samePairs_eq h]
    · cases h
  | [], _ :: _, h => by cases h
  | _ :: _, [], h => by cases h

theorem pair_bne (p q : Pair) : (!((p.1.toList == q.1.toList) && (p.2.toList == q.2.toList))) = !decide (p = q) := by
  rcases p with ⟨p1, p2⟩
  rcases q with ⟨q1, q2⟩
  congr 1
  by_cases h1 : p1 = q1
  · by_cases h2 : p2 = q2
    · simp [h1, h2]
    · have : p2.toList ≠ q2.toList := fun e => h2 (toList_inj e)
      simp [h2, this]
  · have : p1.toList ≠ q1.toList := fun e => h1 (toList_inj e)
    simp [h1, this]
theorem attr_under : Tryz.prog.underlying 56 = some (.struct (Tryz.prog.fieldsOf 56)) := by kernel_rfl
theorem attr_stood : Tryz.prog.stoodInHeld 56 = false := by kernel_rfl
theorem neq_attr (p q : Pair) (u : World) : (binOp .neq 56 (.agg #[.string p.1, .string p.2]) (.agg #[.string q.1, .string q.2])).run Tryz.prog u = .ok (.bool (!decide (p = q))) u := by
  rw [← pair_bne, run_neq_struct, show (10000 : Nat) = 9999 + 1 from rfl, run_equalIn_agg _ _ _ _ _ attr_under attr_stood]
  simp [go_sem, Op.eqFields]
  by_cases h1 : p.1.toList = q.1.toList <;> by_cases h2 : p.2.toList = q.2.toList <;> simp [h1, h2]
theorem eql_attr (p q : Pair) (u : World) : (binOp .eql 56 (.agg #[.string p.1, .string p.2]) (.agg #[.string q.1, .string q.2])).run Tryz.prog u = .ok (.bool (decide (p = q))) u := by
  rw [← Bool.not_not (decide (p = q)), ← pair_bne, run_eql_struct, show (10000 : Nat) = 9999 + 1 from rfl, run_equalIn_agg _ _ _ _ _ attr_under attr_stood]
  simp [go_sem, Op.eqFields]
  by_cases h1 : p.1.toList = q.1.toList <;> by_cases h2 : p.2.toList = q.2.toList <;> simp [h1, h2]

set_option maxHeartbeats 400000 in
theorem sameAttrs_any (l r : List Pair) (a a' : Option Addr) (c c' : Nat) (w : World) (hl : l.length ≤ maxLen) (_hr : r.length ≤ maxLen) (ha : At w a (pairsV l)) (ha' : At w a' (pairsV r)) :
    Calls Tryz.prog 35 #[.slice a l.length c, .slice a' r.length c'] w fun e w' => e = .returned (.bool (samePairs l r)) ∧ ∃ n, w' = w.drewN n := by
  have HA := Lib.hid ha
  have HA' := Lib.hid ha'
  clear ha ha'
  unfold maxLen at hl
  by_cases hlen : l.length = r.length
  · have h0 : ((l.length : Int) != (r.length : Int)) = false := by simp [hlen]
    have HL := Lib.hid hlen
    clear hlen
    go_enter Tryz.func35, Tryz.ntmps35
    go_wp2
    clear h0
    go_loopw [5] (fun i wr => ∃ k : Nat, k ≤ l.length ∧ i = .int .i64 k ∧ (∃ n, wr = w.drewN n) ∧ samePairs l r = samePairs (l.drop k) (r.drop k)) (fun i _ => l.length - (intOf i).toNat)
    case atStart => exact ⟨0, Nat.zero_le _, rfl, ⟨0, rfl⟩, rfl⟩
    case round =>
      obtain ⟨k, hk, rfl, ⟨n, rfl⟩, hv⟩ := hrel
      have HV := Lib.hid hv
      clear hv
      by_cases hlt : k < l.length
      · have hlt' : k < r.length := by have := HL.out; omega
        obtain ⟨b, o, rfl, hlb, h1, h2⟩ := pair_cells HA.out hlt
        obtain ⟨b', o', rfl, hlb', h1', h2'⟩ := pair_cells HA'.out hlt'
        have hne := neq_attr l[k] r[k]
        by_cases he : l[k] = r[k]
        · have HE := Lib.hid he
          rw [decide_eq_true he] at hne
          clear he
          go_wp2
          go_quiet (fail)
          go_wp2
          go_roundw
          case rel => exact ⟨k + 1, by omega, by go_num, (by first | exact ⟨_, rfl⟩ | exact ⟨_, drewN_two _ _ _⟩), by rw [HV.out, samePairs_step l r k hlt hlt' HE.out]⟩
          case measure => simp [intOf]; omega
        · have HE := Lib.hid he
          rw [decide_eq_false he] at hne
          clear he
          go_wp2
          go_quiet (fail)
          go_wp2
          go_ret
          exact ⟨ret_bool (by rw [HV.out, samePairs_miss l r k hlt hlt' HE.out]), (by first | exact ⟨_, rfl⟩ | exact ⟨_, drewN_two _ _ _⟩)⟩
      · go_wp2
        go_ret
        exact ⟨ret_bool (by rw [HV.out, List.drop_of_length_le (by omega), List.drop_of_length_le (by have := HL.out; omega)]; rfl), _, rfl⟩
  · have h0 : ((l.length : Int) != (r.length : Int)) = true := by simp; omega
    have HL := Lib.hid hlen
    clear hlen
    go_enter Tryz.func35, Tryz.ntmps35
    go_wp2
    go_ret
    exact ⟨ret_bool (samePairs_len l r HL.out).symm, 0, rfl⟩
end Go.Proofs.YtbabcohidpcjjaaGreat

/-
  Contracts: colanderref13.SameMark, Same: are two marks, two lists of marks the same?
-/
namespace Go.Proofs.YtbabcohidpcjjaaGreat
open Go.RowKit Mem

deriving instance DecidableEq for MarkD
theorem attP_inj : ∀ {a b : List (Str × Str)}, attP a = attP b → a = b
  | [], [], _ => rfl
  | [], _ :: _, h => by cases h
  | _ :: _, [], h => by cases h
  | x :: a, y :: b, h => by
    simp only [attP, List.map_cons, List.cons.injEq, Prod.mk.injEq] at h
    have e1 := congrArg ByteArray.toList h.1.1
    have e2 := congrArg ByteArray.toList h.1.2
    rw [toList_strB, toList_strB] at e1 e2
    rw [attP_inj (a := a) (b := b) h.2, Prod.ext e1 e2]
theorem samePairs_attP (a b : List (Str × Str)) : samePairs (attP a) (attP b) = decide (a = b) := by
  by_cases h : a = b
  · rw [h, samePairs_self, decide_eq_true rfl]
  · rw [decide_eq_false h]
    cases hs : samePairs (attP a) (attP b)
    · rfl
    · exact absurd (attP_inj (samePairs_eq hs)) h
theorem same_mark (x y : MarkD) {b1 b2 b3 b4 b5 : Bool} (e1 : samePairs (attP x.attrs) (attP y.attrs) = b1) (e2 : (x.kind == y.kind) = b2) (e3 : ((strB x.name).toList == (strB y.name).toList) = b3) (e4 : (x.self == y.self) = b4) (e5 : ((strB x.text).toList == (strB y.text).toList) = b5) : decide (x = y) = (b1 && b2 && b3 && b4 && b5) := by
  rw [samePairs_attP] at e1
  rw [toList_strB, toList_strB] at e3 e5
  rw [← e1, ← e2, ← e3, ← e4, ← e5]
  cases x
  cases y
  rw [Bool.eq_iff_iff]
  simp
  constructor
  · rintro ⟨rfl, rfl, rfl, rfl, rfl⟩; simp
  · rintro ⟨⟨⟨⟨rfl, rfl⟩, rfl⟩, rfl⟩, rfl⟩; simp

theorem below_n {B : Nat} {a w : World} (h : Below B a w) (n : Nat) : Below B a (w.drewN n) := h.trans ⟨rfl, rfl, rfl, Nat.le_refl _, fun _ _ => rfl⟩
set_option maxRecDepth 100000 in
set_option maxHeartbeats 4000000 in
theorem SameMark_any (x y : MarkD) (a a' : Option Addr) (c c' : Nat) (w : World) (hx : x.attrs.length ≤ 100) (hy : y.attrs.length ≤ 100) (ha : At w a (pairsV (attP x.attrs))) (ha' : At w a' (pairsV (attP y.attrs))) :
    Calls Tryz.prog 20 #[.agg #[.int .i64 x.kind, .string (strB x.name), .slice a x.attrs.length c, .bool x.self, .string (strB x.text)], .agg #[.int .i64 y.kind, .string (strB y.name), .slice a' y.attrs.length c', .bool y.self, .string (strB y.text)]] w fun e w' => e = .returned (.bool (decide (x = y))) ∧ Below w.heap.size w w' := by
  have HA := Lib.hid ha
  have HA' := Lib.hid ha'
  obtain ⟨b1, e1⟩ : ∃ b, samePairs (attP x.attrs) (attP y.attrs) = b := ⟨_, rfl⟩
  obtain ⟨b2, e2⟩ : ∃ b, (x.kind == y.kind) = b := ⟨_, rfl⟩
  obtain ⟨b3, e3⟩ : ∃ b, ((strB x.name).toList == (strB y.name).toList) = b := ⟨_, rfl⟩
  obtain ⟨b4, e4⟩ : ∃ b, (x.self == y.self) = b := ⟨_, rfl⟩
  obtain ⟨b5, e5⟩ : ∃ b, ((strB x.text).toList == (strB y.text).toList) = b := ⟨_, rfl⟩
  have HV := Lib.hid (same_mark x y e1 e2 e3 e4 e5)
  have E1 := Lib.hid e1
  generalize decide (x = y) = v at *
  clear ha ha' e1
  go_enter Tryz.func20, Tryz.ntmps20
  go_wp2_with fail
  have hS := sameAttrs_any (attP x.attrs) (attP y.attrs) a a' c c' _ (by rw [attP_length]; unfold maxLen; omega) (by rw [attP_length]; unfold maxLen; omega) ((HA.out.below ((Below.refl _ w).alloc (Nat.le_refl _) (.cells #[.int .i64 x.kind, .string (strB x.name), .slice a x.attrs.length c, .bool x.self, .string (strB x.text)] 46))).below ((Below.refl _ _).alloc (Nat.le_refl _) (.cells #[.int .i64 y.kind, .string (strB y.name), .slice a' y.attrs.length c', .bool y.self, .string (strB y.text)] 46))) ((HA'.out.below ((Below.refl _ w).alloc (Nat.le_refl _) (.cells #[.int .i64 x.kind, .string (strB x.name), .slice a x.attrs.length c, .bool x.self, .string (strB x.text)] 46))).below ((Below.refl _ _).alloc (Nat.le_refl _) (.cells #[.int .i64 y.kind, .string (strB y.name), .slice a' y.attrs.length c', .bool y.self, .string (strB y.text)] 46)))
  rw [attP_length, attP_length, E1.out] at hS
  refine hS.mono ?_
  rintro r W1 ⟨rfl, n, rfl⟩
  clear hS
  dsimp only
  go_wp2_with fail
  all_goals
    go_ret
    refine ⟨?_, ?_⟩
    · rw [HV.out]; simp [*]
    · exact below_n (((Below.refl _ w).alloc (Nat.le_refl _) _).alloc (by simp) _) n
theorem same_step {L M : List MarkD} {k : Nat} (h1 : k < L.length) (h2 : k < M.length) (he : L[k] = M[k]) (h : L.take k = M.take k) : L.take (k + 1) = M.take (k + 1) := by
  rw [List.take_succ_eq_append_getElem h1, List.take_succ_eq_append_getElem h2, he, h]
set_option maxRecDepth 100000 in
set_option maxHeartbeats 4000000 in
theorem Same_any (L M : MS) (a a' : Option Addr) (c c' : Nat) (w : World) (hA : At w a (marksV L)) (hAA : AtsAt w L) (hB : At w a' (marksV M)) (hBB : AtsAt w M) (hl : L.length ≤ 10000000000) (hm : M.length ≤ 10000000000) :
    Calls Tryz.prog 9 #[.slice a L.length c, .slice a' M.length c'] w fun e w' => e = .returned (.bool (decide (L.map (·.1) = M.map (·.1)))) ∧ Below w.heap.size w w' := by
  have HA := Lib.hid hA
  have HAA := Lib.hid hAA
  have HB := Lib.hid hB
  have HBB := Lib.hid hBB
  clear hA hAA hB hBB
  obtain ⟨v, hv⟩ : ∃ v, v = decide (L.map (·.1) = M.map (·.1)) := ⟨_, rfl⟩
  rw [← hv]
  obtain ⟨n, hn⟩ : ∃ n, n = L.length := ⟨_, rfl⟩
  obtain ⟨n', hn'⟩ : ∃ n', n' = M.length := ⟨_, rfl⟩
  rw [← hn, ← hn']
  have HV := Lib.hid hv
  have HN := Lib.hid hn
  have HN' := Lib.hid hn'
  have hn1 : n ≤ 10000000000 := by omega
  have hn2 : n' ≤ 10000000000 := by omega
  clear hv hn hn' hl hm
  by_cases hlen : n = n'
  · have h0 : ((n : Int) != (n' : Int)) = false := by simp [hlen]
    have HL := Lib.hid hlen
    clear hlen
    go_enter Tryz.func9, Tryz.ntmps9
    go_wp2_with fail
    clear h0
    go_loopw [5] (fun i wr => ∃ k : Nat, k ≤ n ∧ i = .int .i64 k ∧ Below w.heap.size w wr ∧ (L.map (·.1)).take k = (M.map (·.1)).take k) (fun i _ => n - (intOf i).toNat)
    case atStart => exact ⟨0, Nat.zero_le _, rfl, Below.refl _ _, rfl⟩
    case round =>
      obtain ⟨k, hk, rfl, hb, heq⟩ := hrel
      have HBr := Lib.hid hb
      have HEQ := Lib.hid heq
      clear hb heq
      by_cases hlt : k < n
      · have hkn : k < n' := by have := HL.out; omega
        have hkL : k < L.length := by rw [← HN.out]; exact hlt
        have hkM : k < M.length := by rw [← HN'.out]; exact hkn
        obtain ⟨b, oo, rfl, hbw, x0, x1, x2, x3, x4⟩ := mark_cells (HA.out.below HBr.out) hkL
        obtain ⟨b', oo', rfl, hbw', y0, y1, y2, y3, y4⟩ := mark_cells (HB.out.below HBr.out) hkM
        obtain ⟨sa, sc, hsl, hsn, hsat, hsl100⟩ := HAA.out L[k] (List.getElem_mem hkL)
        obtain ⟨ta, tc, htl, htn, htat, htl100⟩ := HBB.out M[k] (List.getElem_mem hkM)
        have HST := Lib.hid (fun he => same_step (L := L.map (·.1)) (M := M.map (·.1)) (k := k) (by rw [List.length_map]; exact hkL) (by rw [List.length_map]; exact hkM) he HEQ.out)
        have HNE : Hid (L[k].1 ≠ M[k].1 → L.map (·.1) ≠ M.map (·.1)) := fun h e => h (by
          have h1 : (L.map (·.1))[k]? = some L[k].1 := by rw [List.getElem?_map, List.getElem?_eq_getElem hkL]; rfl
          have h2 : (M.map (·.1))[k]? = some M[k].1 := by rw [List.getElem?_map, List.getElem?_eq_getElem hkM]; rfl
          rw [e, h2] at h1
          exact (Option.some.inj h1).symm)
        simp only [List.getElem_map] at HST
        generalize L[k] = p at *
        generalize M[k] = q at *
        obtain ⟨x, sl⟩ := p
        obtain ⟨y, tl⟩ := q
        simp only at x0 x1 x2 x3 x4 y0 y1 y2 y3 y4 hsl hsat hsl100 htl htat htl100 HST HNE
        subst hsl htl
        have HSA := Lib.hid (hsat.below HBr.out)
        have HTA := Lib.hid (htat.below HBr.out)
        have HSM := Lib.hid (fun u (hu : Below wr.heap.size wr u) => SameMark_any x y sa ta sc tc u hsl100 htl100 (HSA.out.below hu) (HTA.out.below hu))
        obtain ⟨t, ht⟩ : ∃ t, t = decide (x = y) := ⟨_, rfl⟩
        rw [← ht] at HSM
        have HT := Lib.hid ht
        clear hsat htat ht
        go_wp2_with fail
        refine wp_region_calm (by kernel_rfl) (by kernel_rfl) ?_
        repeat
          with_reducible refine wpQuiet_step (fun K hK => ?_)
          first
            | (with_reducible apply calm_skip
               · rfl
               simp only [Act.put, List.setIfInBounds_toArray, List.set_cons_zero, List.set_cons_succ]
               refine hK _ ?_
               clear hK K)
            | (with_reducible apply calm_run
               · rfl
               · intro wq hC
                 have zx0 := cell_later hC.out x0
                 have zx1 := cell_later hC.out x1
                 have zx2 := cell_later hC.out x2
                 have zx3 := cell_later hC.out x3
                 have zx4 := cell_later hC.out x4
                 have zy0 := cell_later hC.out y0
                 have zy1 := cell_later hC.out y1
                 have zy2 := cell_later hC.out y2
                 have zy3 := cell_later hC.out y3
                 have zy4 := cell_later hC.out y4
                 unfold Oper.quietAt
                 go_simp
                 first | done | (go_at_call 20; go_must (refine (HSM.out _ hC.out).mono ?_; rintro e wx ⟨rfl, hbx⟩; exact ⟨rfl, Lib.hid (belowCall hC.out hbx)⟩)) | with_reducible rfl | rfl
               simp only [Act.put, List.setIfInBounds_toArray, List.set_cons_zero, List.set_cons_succ]
               refine hK _ ?_
               clear hK K)
        with_reducible refine wpQuiet_nil ?_
        intro wq HQ
        have zx0 := cell_later HQ.out x0
        have zx1 := cell_later HQ.out x1
        have zx2 := cell_later HQ.out x2
        have zx3 := cell_later HQ.out x3
        have zx4 := cell_later HQ.out x4
        have zy0 := cell_later HQ.out y0
        have zy1 := cell_later HQ.out y1
        have zy2 := cell_later HQ.out y2
        have zy3 := cell_later HQ.out y3
        have zy4 := cell_later HQ.out y4
        have HB2 := Lib.hid (belowCall HBr.out HQ.out)
        cases t
        · go_wp2_with fail
          go_ret
          exact ⟨ret_bool (by rw [HV.out, decide_eq_false (HNE.out (of_decide_eq_false HT.out.symm))]), HB2.out⟩
        · go_wp2_with fail
          go_roundw
          case rel => exact ⟨k + 1, by omega, by go_num, HB2.out, HST.out (of_decide_eq_true HT.out.symm)⟩
          case measure => simp [intOf]; omega
      · go_wp2_with fail
        go_ret
        refine ⟨ret_bool ?_, HBr.out⟩
        have h1 := HEQ.out
        have h2 := HN.out
        have h3 := HN'.out
        have h4 := HL.out
        rw [List.take_of_length_le (by rw [List.length_map]; omega), List.take_of_length_le (by rw [List.length_map]; omega)] at h1
        rw [HV.out, decide_eq_true h1]
  · have h0 : ((n : Int) != (n' : Int)) = true := by simp; omega
    have HL := Lib.hid hlen
    clear hlen
    go_enter Tryz.func9, Tryz.ntmps9
    go_wp2_with fail
    go_ret
    refine ⟨ret_bool ?_, Below.refl _ _⟩
    rw [HV.out, decide_eq_false]
    intro e
    have := congrArg List.length e
    rw [List.length_map, List.length_map, ← HN.out, ← HN'.out] at this
    exact HL.out this
theorem Same_true {L M : MS} (h : L.map (·.1) = M.map (·.1)) (a a' : Option Addr) (c c' : Nat) (w : World) (hA : At w a (marksV L)) (hAA : AtsAt w L) (hB : At w a' (marksV M)) (hBB : AtsAt w M) (hl : L.length ≤ 10000000000) :
    Calls Tryz.prog 9 #[.slice a L.length c, .slice a' M.length c'] w fun e w' => e = .returned (.bool true) ∧ Below w.heap.size w w' := by
  have hlen := congrArg List.length h
  rw [List.length_map, List.length_map] at hlen
  have := Same_any L M a a' c c' w hA hAA hB hBB hl (by omega)
  rw [decide_eq_true h] at this
  exact this
end Go.Proofs.YtbabcohidpcjjaaGreat

/-
  Contract: the law's first example: it is as the document has it.
-/
namespace Go.Proofs.YtbabcohidpcjjaaGreat
open Go.RowKit Mem

def exM : List MarkD := [textM [97], ⟨2, [98], [([99], [49]), ([100], [60])], true, []⟩, textM [120], ⟨3, [98], [], false, []⟩]
theorem ex_marks : marksF ([97, 60, 66, 32, 99, 61, 49, 32, 67, 61, 50, 32, 100, 61, 39, 38, 108, 116, 39, 47, 62, 120, 60, 47, 98, 32, 101, 62] : List UInt8) = (exM, 0) := by decide +kernel
def exS (g : Nat) : MS := [(textM [97], .slice none 0 0), (⟨2, [98], [([99], [49]), ([100], [60])], true, []⟩, .slice (some ⟨g, 0, none⟩) 2 2), (textM [120], .slice none 0 0), (⟨3, [98], [], false, []⟩, .slice none 0 0)]
theorem bytes_list (l : Str) : (⟨l.toArray⟩ : ByteArray).toList = l := toList_strB l

theorem AtsAt.below {w w' : World} {L : MS} (h : AtsAt w L) (hb : Below w.heap.size w w') : AtsAt w' L := fun p hp => by
  obtain ⟨ao, co, h1, h2, h3, h4⟩ := h p hp
  exact ⟨ao, co, h1, h2, h3.below hb, h4⟩
theorem at_nil (w : World) (a : Option Addr) : At w a [] := fun _ _ h => by simp at h
theorem exS_ats {w : World} {g : Nat} (h : At w (some ⟨g, 0, none⟩) (pairsV (attP [([99], [49]), ([100], [60])]))) : AtsAt w (exS g) := fun p hp => by
  simp only [exS, List.mem_cons, List.not_mem_nil, or_false] at hp
  rcases hp with rfl | rfl | rfl | rfl
  · exact ⟨none, 0, rfl, fun _ => rfl, at_nil _ _, by decide⟩
  · exact ⟨_, 2, rfl, fun e => (by cases e), h, by show 2 ≤ 100; omega⟩
  · exact ⟨none, 0, rfl, fun _ => rfl, at_nil _ _, by decide⟩
  · exact ⟨none, 0, rfl, fun _ => rfl, at_nil _ _, by decide⟩
set_option maxRecDepth 100000 in
set_option maxHeartbeats 4000000 in
theorem shown_any (y : Int) (w : World) (hm : maxAt w y) : Calls Tryz.prog 6 #[] w fun e w' => e = .returned (.bool true) ∧ Below w.heap.size w w' := by
  have hA := Marks_all (⟨#[97, 60, 66, 32, 99, 61, 49, 32, 67, 61, 50, 32, 100, 61, 39, 38, 108, 116, 39, 47, 62, 120, 60, 47, 98, 32, 101, 62]⟩ : ByteArray) y w hm (by decide)
  rw [show (⟨#[97, 60, 66, 32, 99, 61, 49, 32, 67, 61, 50, 32, 100, 61, 39, 38, 108, 116, 39, 47, 62, 120, 60, 47, 98, 32, 101, 62]⟩ : ByteArray).toList = ([97, 60, 66, 32, 99, 61, 49, 32, 67, 61, 50, 32, 100, 61, 39, 38, 108, 116, 39, 47, 62, 120, 60, 47, 98, 32, 101, 62] : List UInt8) from bytes_list _, ex_marks] at hA
  have HAL := Lib.hid hA
  clear hA hm
  go_enter Tryz.func6, Tryz.ntmps6
  go_wp2_with fail
  refine HAL.out.mono ?_
  rintro r W1 ⟨h, hb⟩
  have HB1 := Lib.hid hb
  clear HAL hb
  rcases h with ⟨h1, -⟩ | ⟨-, v, L, rfl, h2, h3, h4⟩
  · exact absurd rfl h1
  · obtain ⟨ao, co, hv, -, -, h0, hat⟩ := own_at h3
    subst hv
    have H2 := Lib.hid h2
    have HAT := Lib.hid hat
    have HL := Lib.hid (ats_at h4 (fun p hp => by
      have : p.1 ∈ exM := by rw [← (show L.map (·.1) = exM from H2.out)]; exact List.mem_map_of_mem hp
      revert this
      exact (by decide : ∀ x ∈ exM, x.attrs.length ≤ 8) p.1))
    clear h2 h3 h4 hat h0
    dsimp only
    go_wp2_with fail
    refine (Same_true (L := L) (M := exS W1.heap.size) H2.out ao (some ⟨W1.heap.size + 1, 0, none⟩) co 4 _ ((HAT.out.below ((Below.refl _ _).alloc (Nat.le_refl _) _)).below ((Below.refl _ _).alloc (Nat.le_refl _) _)) ((HL.out.below ((Below.refl _ _).alloc (Nat.le_refl _) _)).below ((Below.refl _ _).alloc (Nat.le_refl _) _)) (at_alloc (by simp) rfl) (exS_ats ((at_alloc (w := W1) rfl rfl).below ((Below.refl _ _).alloc (Nat.le_refl _) _))) ?_).mono ?_
    · have := congrArg List.length H2.out
      rw [List.length_map] at this
      rw [this]
      decide
    · rintro r W2 ⟨rfl, hb⟩
      have HB2 := Lib.hid (((HB1.out.alloc HB1.out.size _).alloc (by have := HB1.out.size; simp; omega) _).trans (hb.mono (by have := HB1.out.size; simp; omega)))
      clear hb
      dsimp only
      go_wp2_with fail
      go_ret
      exact ⟨rfl, HB2.out⟩
end Go.Proofs.YtbabcohidpcjjaaGreat
