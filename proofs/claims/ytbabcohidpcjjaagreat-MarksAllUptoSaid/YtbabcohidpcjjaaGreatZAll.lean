import Derived.Test.YtbabcohidpcjjaaGreatZStep
import Derived.Test.YtbabcohidpcjjaaGreatZMkAll
import Derived.Test.YtbabcohidpcjjaaGreatZDzL
import Derived.Test.YtbabcohidpcjjaaGreatDzGD
import Derived.Deep.RegionWith
/-
  Contract: the document's Auto: the mode that a start tag's name asks for. (Seat 4's '.Z'.)
-/
namespace Go.Proofs.YtbabcohidpcjjaaGreat
open Go.RowKit Mem

def autoF (n : Str) : Int := if refW.contains n then 1 else if rawW.contains n then 2 else 0
set_option maxRecDepth 100000 in
set_option maxHeartbeats 4000000 in
theorem Auto_any (n : Str) (w : World) : Calls Tryz.prog 24 #[.string (strB n)] w fun r w' => r = .returned (.int .i64 (autoF n)) ∧ w = w' := by
  obtain ⟨o, ho⟩ : ∃ o, o = autoF n := ⟨_, rfl⟩
  rw [← ho]
  unfold autoF at ho
  rw [contains_any, contains_any] at ho
  unfold anyN refW rawW at ho
  simp only [List.any_cons, List.any_nil, Bool.or_false] at ho
  have ht : (strB n).toList = n := toList_strB _
  obtain ⟨t0, hx0⟩ : ∃ t, (n == ([116, 105, 116, 108, 101] : List UInt8)) = t := ⟨_, rfl⟩
  obtain ⟨t1, hx1⟩ : ∃ t, (n == ([116, 101, 120, 116, 97, 114, 101, 97] : List UInt8)) = t := ⟨_, rfl⟩
  obtain ⟨t2, hx2⟩ : ∃ t, (n == ([115, 116, 121, 108, 101] : List UInt8)) = t := ⟨_, rfl⟩
  obtain ⟨t3, hx3⟩ : ∃ t, (n == ([115, 99, 114, 105, 112, 116] : List UInt8)) = t := ⟨_, rfl⟩
  obtain ⟨t4, hx4⟩ : ∃ t, (n == ([120, 109, 112] : List UInt8)) = t := ⟨_, rfl⟩
  obtain ⟨t5, hx5⟩ : ∃ t, (n == ([105, 102, 114, 97, 109, 101] : List UInt8)) = t := ⟨_, rfl⟩
  obtain ⟨t6, hx6⟩ : ∃ t, (n == ([110, 111, 101, 109, 98, 101, 100] : List UInt8)) = t := ⟨_, rfl⟩
  obtain ⟨t7, hx7⟩ : ∃ t, (n == ([110, 111, 102, 114, 97, 109, 101, 115] : List UInt8)) = t := ⟨_, rfl⟩
  rw [hx0, hx1, hx2, hx3, hx4, hx5, hx6, hx7] at ho
  have HO := Lib.hid ho
  clear ho
  go_enter Tryz.func24, Tryz.ntmps24
  go_wp2_with fail
  all_goals go_ret
  all_goals first
    | (have h : o = 1 := by (rw [HO.out]; simp [*]; done)
       rw [h]; exact ⟨rfl, rfl⟩)
    | (have h : o = 2 := by (rw [HO.out]; simp [*]; done)
       rw [h]; exact ⟨rfl, rfl⟩)
    | (have h : o = 0 := by (rw [HO.out]; simp [*]; done)
       rw [h]; exact ⟨rfl, rfl⟩)
    | (exfalso; simp_all; done)
end Go.Proofs.YtbabcohidpcjjaaGreat

/-
  Contract: the document's Join: texts side by side made one. (Seat 4's '.Z'; printed by wip/dzm_gen.py.)
-/
namespace Go.Proofs.YtbabcohidpcjjaaGreat
open Go.RowKit Mem

/-- each slice is one of L's -/
def SrcOf (L Lo : MS) : Prop := ∀ p ∈ Lo, ∃ q ∈ L, p.2 = q.2
/-- marks with their attributes in memory, each slice one of L's -/
def AtsSrc (w : World) (L Lo : MS) : Prop := AtsAt w Lo ∧ SrcOf L Lo
set_option maxRecDepth 100000 in
set_option maxHeartbeats 4000000 in
theorem dJoin_any (L : MS) (a : Option Addr) (c : Nat) (w : World) (hA : At w a (marksV L)) (hAA : AtsAt w L) (hL : L.length ≤ 10000000000) (hT : tlen (L.map (·.1)) ≤ 1099511627776) :
    Calls Tryz.prog 15 #[.slice a L.length c] w fun r w' => ∃ v Lo, r = .returned v ∧ Lo.map (·.1) = joinF [] (L.map (·.1)) ∧ w'.ownsRow w.heap.size 46 5 v Lo.length (marksV Lo) ∧ AtsAt w' Lo ∧ SrcOf L Lo ∧ Below w.heap.size w w' := by
  have HA := Lib.hid hA
  have HAA := Lib.hid hAA
  obtain ⟨i0', hi, hi0, hi1, hi2⟩ := info_parts info_mark
  obtain ⟨J, hJ⟩ : ∃ J, J = joinF [] (L.map (·.1)) := ⟨_, rfl⟩
  rw [← hJ]
  have HJ := Lib.hid hJ
  obtain ⟨n, hn⟩ : ∃ n, n = L.length := ⟨_, rfl⟩
  rw [← hn]
  have HN := Lib.hid hn
  have hL' : n ≤ 10000000000 := by omega
  clear hA hAA hJ hn hL
  go_enter Tryz.func15, Tryz.ntmps15
  go_wp2_with fail
  go_loopw [3, 4] (fun v i wr => ∃ (k : Nat) (Lo : MS), k ≤ n ∧ i = .int .i64 k ∧ Lo.length ≤ k ∧ joinF (Lo.map (·.1)) ((L.drop k).map (·.1)) = J ∧ wr.ownsRow w.heap.size 46 5 v Lo.length (marksV Lo) ∧ AtsSrc w L Lo ∧ Below w.heap.size w wr ∧ (∀ p ∈ Lo, p.1.text.length + tlen ((L.drop k).map (·.1)) ≤ 1099511627776) ∧ tlen ((L.drop k).map (·.1)) ≤ 1099511627776) (fun _ i _ => n - (intOf i).toNat)
  case atStart => exact ⟨0, [], Nat.zero_le _, rfl, Nat.le_refl _, by rw [HJ.out]; rfl, World.ownsRow_nil _ _ _ _, ⟨fun p hp => (by cases hp), fun p hp => (by cases hp)⟩, Below.refl _ _, fun p hp => (by cases hp), hT⟩
  case round =>
    obtain ⟨k, Lo, hk, rfl, hlo, hj', hro, hao, hb, htx, htl⟩ := hrel
    have HJK := Lib.hid hj'
    have HOr := Lib.hid hro
    have HAr := Lib.hid hao
    have HBr := Lib.hid hb
    have HTX := Lib.hid htx
    have HTL := Lib.hid htl
    obtain ⟨ao, co, hv, hco1, hco2, hco3, -⟩ := own_at hro
    subst hv
    clear hj' hro hao hb htx htl
    by_cases hlt : k < n
    · have hkL : k < L.length := by rw [← HN.out]; exact hlt
      obtain ⟨b, oo, rfl, hbw, x0, x1, x2, x3, x4⟩ := mark_cells (HA.out.below HBr.out) hkL
      have HD := Lib.hid (List.drop_eq_getElem_cons hkL)
      obtain ⟨sa, sc, hsl, hsn, hsat, hsl100⟩ := HAA.out L[k] (List.getElem_mem hkL)
      have hmem := List.getElem_mem hkL
      generalize L[k] = p at *
      obtain ⟨x, sl⟩ := p
      simp only at x0 x1 x2 x3 x4 hsl hsat hsl100
      subst hsl
      have HMEM := Lib.hid hmem
      clear hmem
      have HSA := Lib.hid hsat
      clear hsat
      by_cases hkd : x.kind = 1
      · have hkb : (x.kind != 1) = false := by rw [hkd]; rfl
        by_cases hte : x.text = []
        · have htb : (strB x.text).toList.isEmpty = true := by rw [toList_strB, hte]; rfl
          have HJN := Lib.hid (show joinF (Lo.map (·.1)) ((L.drop (k + 1)).map (·.1)) = J from by rw [← HJK.out, HD.out, List.map_cons, join_empty hkd hte])
          clear hkd hte
          go_wp2_with fail
          go_roundw
          case rel => exact ⟨k + 1, Lo, by omega, by go_num, by omega, HJN.out, HOr.out.alloc _, HAr.out, HBr.out.alloc HBr.out.size _, fun p hp => by have h := HTX.out p hp; rw [HD.out, List.map_cons, tlen] at h; omega, by have h := HTL.out; rw [HD.out, List.map_cons, tlen] at h; omega⟩
          case measure => simp [intOf]; omega
        · have htb : (strB x.text).toList.isEmpty = false := by
            rw [toList_strB]
            cases h : x.text with
            | nil => exact absurd h hte
            | cons _ _ => rfl
          rcases List.eq_nil_or_concat Lo with hLo | ⟨Lo0, p0, hLo⟩
          · have HJN := Lib.hid (show joinF (Lo.map (·.1) ++ [x]) ((L.drop (k + 1)).map (·.1)) = J from by rw [← HJK.out, HD.out, List.map_cons, join_push hkd hte (by rw [hLo]; intro y hy; cases hy)])
            have hl0 : Lo.length = 0 := by rw [hLo]; rfl
            have hl0i : ¬ (0 : Int) < (Lo.length : Int) := by omega
            clear hkd hte hLo hl0
            have hzr := HBr.out.size
            have hb3 : Lo.length + 1 ≤ maxLen := by unfold maxLen; omega
            have hb4 : (Lo.length + 1) * 72 ≤ 140737488355328 := by omega
            have HN8 := Lib.hid ((at_alloc (w := wr.alloc (.cells #[.int .i64 x.kind, .string (strB x.name), .slice sa x.attrs.length sc, .bool x.self, .string (strB x.text)] 46)) (cur := #[.int .i64 x.kind, .string (strB x.name), .slice sa x.attrs.length sc, .bool x.self, .string (strB x.text)]) (e := 46) (xs := markC (x, .slice sa x.attrs.length sc)) (g := wr.heap.size + 1) (by simp) rfl).news)
            have HO7 := Lib.hid ((HOr.out.alloc (.cells #[.int .i64 x.kind, .string (strB x.name), .slice sa x.attrs.length sc, .bool x.self, .string (strB x.text)] 46)).alloc (.cells #[.int .i64 x.kind, .string (strB x.name), .slice sa x.attrs.length sc, .bool x.self, .string (strB x.text)] 46))
            have hz7 : w.heap.size ≤ ((wr.alloc (.cells #[.int .i64 x.kind, .string (strB x.name), .slice sa x.attrs.length sc, .bool x.self, .string (strB x.text)] 46)).alloc (.cells #[.int .i64 x.kind, .string (strB x.name), .slice sa x.attrs.length sc, .bool x.self, .string (strB x.text)] 46)).heap.size := by simp; omega
            have HB7 := Lib.hid ((HBr.out.alloc hzr (.cells #[.int .i64 x.kind, .string (strB x.name), .slice sa x.attrs.length sc, .bool x.self, .string (strB x.text)] 46)).alloc (by simp; omega) (.cells #[.int .i64 x.kind, .string (strB x.name), .slice sa x.attrs.length sc, .bool x.self, .string (strB x.text)] 46))
            have HAT5 : Hid (AtsSrc w L (Lo ++ [(x, .slice sa x.attrs.length sc)])) := by
              refine ⟨fun q hq => ?_, fun q hq => ?_⟩
              · rcases List.mem_append.1 hq with hq | hq
                · exact HAr.out.1 q hq
                · rw [List.mem_singleton.1 hq]
                  exact ⟨sa, sc, rfl, hsn, HSA.out, hsl100⟩
              · rcases List.mem_append.1 hq with hq | hq
                · exact HAr.out.2 q hq
                · rw [List.mem_singleton.1 hq]
                  exact ⟨_, HMEM.out, rfl⟩
            have HTX5 := Lib.hid (show ∀ q ∈ Lo ++ [(x, Value.slice sa x.attrs.length sc)], q.1.text.length + tlen ((L.drop (k + 1)).map (·.1)) ≤ 1099511627776 from fun q hq => by
              have ht := HTL.out
              rw [HD.out, List.map_cons, tlen] at ht
              rcases List.mem_append.1 hq with hq | hq
              · have h := HTX.out q hq
                rw [HD.out, List.map_cons, tlen] at h
                omega
              · rw [List.mem_singleton.1 hq]
                exact ht)
            have HTL5 := Lib.hid (show tlen ((L.drop (k + 1)).map (·.1)) ≤ 1099511627776 from by have h := HTL.out; rw [HD.out, List.map_cons, tlen] at h; omega)
            go_wp2_with (at_builtin; go_must (refine wpList_append_own _ rfl _ _ 23 rfl w.heap.size 46 i0' _ 5 72 Tryz.underlying23 hi hi0 hi1 hi2 rfl (by decide) _ Lo.length _ rfl HO7.out _ 1 1 (markC (x, .slice sa x.attrs.length sc)) rfl rfl HN8.out (markC_one x sa _ sc) hb3 hb4 hz7 ?_; intro v8 w8 hown8 hgr8 _; have HO8 := Lib.hid hown8; have HG8 := Lib.hid hgr8; clear hown8 hgr8))
            go_roundw
            case rel => exact ⟨k + 1, Lo ++ [(x, .slice sa x.attrs.length sc)], by omega, by go_num, by rw [List.length_append]; show Lo.length + 1 ≤ _; omega, by rw [List.map_append]; exact HJN.out, by rw [List.length_append, marksV_push]; exact HO8.out, HAT5.out, HB7.out.grown HG8.out hz7 (fun k hk => (HO7.out.lt k hk).1), HTX5.out, HTL5.out⟩
            case measure => simp [intOf]; omega
          · rw [List.concat_eq_append] at hLo
            obtain ⟨y, ysl⟩ := p0
            obtain ⟨q, hq⟩ : ∃ q, q = Lo0.length := ⟨_, rfl⟩
            have hlen : Lo.length = q + 1 := by rw [hLo, List.length_append, hq]; rfl
            obtain ⟨gr, cap, hsl2, hgb, -, -⟩ := own_some HOr.out (by omega)
            obtain ⟨hao, -⟩ : ao = some ⟨gr, 0, none⟩ ∧ co = cap := by simpa using hsl2
            subst hao
            have hrow := own_row HOr.out
            have hgl : gr < wr.heap.size := hrow.lt
            have hget : ∀ j, j < 5 → (marksV Lo)[q * 5 + j]? = (markC (y, ysl))[j]? := fun j hj => by
              have h := marksV_get Lo q (by omega) j hj
              rw [h]
              congr 2
              simp only [hLo, hq]
              rw [List.getElem_concat_length]
              rfl
            have hg0 : wr.cell? ⟨gr, q * 5, none⟩ = some (.int .i64 y.kind) := hrow.cell (hget 0 (by omega))
            have hg4 : wr.cell? ⟨gr, q * 5 + 4, none⟩ = some (.string (strB y.text)) := hrow.cell (hget 4 (by omega))
            have hgf : wr.frozen? ⟨gr, q * 5 + 4, none⟩ = false := HOr.out.frozenAt _
            have hgt : (0 : Int) < (Lo.length : Int) := by omega
            have hsub : (Lo.length : Int) - 1 = (q : Int) := by omega
            have hqL : q < Lo.length := by omega
            have hqLi : (q : Int) < (Lo.length : Int) := by omega
            clear hsl2 hget hrow
            by_cases hy : y.kind = 1
            · have hyb : (y.kind == 1) = true := by rw [hy]; rfl
              have HJN := Lib.hid (show joinF ((Lo0 ++ [({ y with text := y.text ++ x.text }, ysl)] : MS).map (·.1)) ((L.drop (k + 1)).map (·.1)) = J from by
                rw [← HJK.out, HD.out, List.map_cons, hLo, List.map_append, List.map_append]
                exact (join_merge hkd hte hy).symm)
              have hcat : strB y.text ++ strB x.text = strB (y.text ++ x.text) := by
                apply toList_inj
                rw [toList_append', toList_strB, toList_strB, toList_strB]
              have hno : ¬ 9223372036854775807 < (strB y.text).size + (strB x.text).size := by
                have h := HTX.out (y, ysl) (by rw [hLo]; simp)
                rw [HD.out, List.map_cons, tlen] at h
                rw [strB_size, strB_size]
                simp only at h
                omega
              have HLO := Lib.hid hLo
              have HQ := Lib.hid hq
              have HLN := Lib.hid hlen
              clear hkd hte hLo hq hlen hy
              go_wp2_with fail
              go_region
              go_wp2_with fail
              have hst := HOr.out.stored (q * 5 + 4) (.string (strB (y.text ++ x.text)))
              have HO6 := Lib.hid hst.1
              have HE6 := Lib.hid (show (marksV Lo).set (q * 5 + 4) (.string (strB (y.text ++ x.text))) = marksV (Lo0 ++ [({ y with text := y.text ++ x.text }, ysl)]) from by rw [HLO.out, HQ.out]; exact marksV_text Lo0 y ysl _)
              have hl6 : (Lo0 ++ [(({ y with text := y.text ++ x.text } : MarkD), ysl)]).length = Lo.length := by rw [HLO.out, List.length_append, List.length_append]; rfl
              have HA7 : Hid (AtsSrc w L (Lo0 ++ [(({ y with text := y.text ++ x.text } : MarkD), ysl)])) := by
                refine ⟨fun p hp => ?_, fun p hp => ?_⟩
                · rcases List.mem_append.1 hp with hp | hp
                  · exact HAr.out.1 p (by rw [HLO.out]; exact List.mem_append_left _ hp)
                  · rw [List.mem_singleton.1 hp]
                    exact HAr.out.1 (y, ysl) (by rw [HLO.out]; simp)
                · rcases List.mem_append.1 hp with hp | hp
                  · exact HAr.out.2 p (by rw [HLO.out]; exact List.mem_append_left _ hp)
                  · rw [List.mem_singleton.1 hp]
                    exact HAr.out.2 (y, ysl) (by rw [HLO.out]; simp)
              have HB6 := Lib.hid (HBr.out.setCell (p := ⟨gr, q * 5 + 4, none⟩) hgb (.string (strB (y.text ++ x.text))))
              have HTL5 := Lib.hid (show tlen ((L.drop (k + 1)).map (·.1)) ≤ 1099511627776 from by have h := HTL.out; rw [HD.out, List.map_cons, tlen] at h; omega)
              have HTX5 := Lib.hid (show ∀ p ∈ (Lo0 ++ [(({ y with text := y.text ++ x.text } : MarkD), ysl)]), p.1.text.length + tlen ((L.drop (k + 1)).map (·.1)) ≤ 1099511627776 from fun p hp => by
                rcases List.mem_append.1 hp with hp | hp
                · have h := HTX.out p (by rw [HLO.out]; exact List.mem_append_left _ hp)
                  rw [HD.out, List.map_cons, tlen] at h
                  omega
                · rw [List.mem_singleton.1 hp]
                  have h := HTX.out (y, ysl) (by rw [HLO.out]; simp)
                  rw [HD.out, List.map_cons, tlen] at h
                  simp only [List.length_append]
                  simp only at h
                  omega)
              clear hst
              go_roundw
              case rel =>
                refine ⟨k + 1, Lo0 ++ [({ y with text := y.text ++ x.text }, ysl)], by omega, by go_num, by rw [hl6]; omega, HJN.out, ?_, HA7.out, ?_, HTX5.out, HTL5.out⟩
                · rw [hl6, ← HE6.out]
                  exact (HO6.out.alloc _).drew
                · exact (HB6.out.alloc (by have := HB6.out.size; exact this) _).drew
              case measure => simp [intOf]; omega
            · have hyb : (y.kind == 1) = false := beq_eq_false_iff_ne.2 hy
              have HJN := Lib.hid (show joinF (Lo.map (·.1) ++ [x]) ((L.drop (k + 1)).map (·.1)) = J from by
                rw [← HJK.out, HD.out, List.map_cons, join_push hkd hte (by
                  rw [hLo, List.map_append]
                  intro z hz
                  rw [show ([(y, ysl)] : MS).map (·.1) = [y] from rfl, List.getLast?_concat] at hz
                  cases hz
                  exact hy)])
              clear hkd hte hLo hlen hq hy
              have hzr := HBr.out.size
              have hb3 : Lo.length + 1 ≤ maxLen := by unfold maxLen; omega
              have hb4 : (Lo.length + 1) * 72 ≤ 140737488355328 := by omega
              have HN8 := Lib.hid ((at_alloc (w := wr.alloc (.cells #[.int .i64 x.kind, .string (strB x.name), .slice sa x.attrs.length sc, .bool x.self, .string (strB x.text)] 46)) (cur := #[.int .i64 x.kind, .string (strB x.name), .slice sa x.attrs.length sc, .bool x.self, .string (strB x.text)]) (e := 46) (xs := markC (x, .slice sa x.attrs.length sc)) (g := wr.heap.size + 1) (by simp) rfl).news)
              have HO7 := Lib.hid ((HOr.out.alloc (.cells #[.int .i64 x.kind, .string (strB x.name), .slice sa x.attrs.length sc, .bool x.self, .string (strB x.text)] 46)).alloc (.cells #[.int .i64 x.kind, .string (strB x.name), .slice sa x.attrs.length sc, .bool x.self, .string (strB x.text)] 46))
              have hz7 : w.heap.size ≤ ((wr.alloc (.cells #[.int .i64 x.kind, .string (strB x.name), .slice sa x.attrs.length sc, .bool x.self, .string (strB x.text)] 46)).alloc (.cells #[.int .i64 x.kind, .string (strB x.name), .slice sa x.attrs.length sc, .bool x.self, .string (strB x.text)] 46)).heap.size := by simp; omega
              have HB7 := Lib.hid ((HBr.out.alloc hzr (.cells #[.int .i64 x.kind, .string (strB x.name), .slice sa x.attrs.length sc, .bool x.self, .string (strB x.text)] 46)).alloc (by simp; omega) (.cells #[.int .i64 x.kind, .string (strB x.name), .slice sa x.attrs.length sc, .bool x.self, .string (strB x.text)] 46))
              have HAT5 : Hid (AtsSrc w L (Lo ++ [(x, .slice sa x.attrs.length sc)])) := by
                refine ⟨fun q hq => ?_, fun q hq => ?_⟩
                · rcases List.mem_append.1 hq with hq | hq
                  · exact HAr.out.1 q hq
                  · rw [List.mem_singleton.1 hq]
                    exact ⟨sa, sc, rfl, hsn, HSA.out, hsl100⟩
                · rcases List.mem_append.1 hq with hq | hq
                  · exact HAr.out.2 q hq
                  · rw [List.mem_singleton.1 hq]
                    exact ⟨_, HMEM.out, rfl⟩
              have HTX5 := Lib.hid (show ∀ q ∈ Lo ++ [(x, Value.slice sa x.attrs.length sc)], q.1.text.length + tlen ((L.drop (k + 1)).map (·.1)) ≤ 1099511627776 from fun q hq => by
                have ht := HTL.out
                rw [HD.out, List.map_cons, tlen] at ht
                rcases List.mem_append.1 hq with hq | hq
                · have h := HTX.out q hq
                  rw [HD.out, List.map_cons, tlen] at h
                  omega
                · rw [List.mem_singleton.1 hq]
                  exact ht)
              have HTL5 := Lib.hid (show tlen ((L.drop (k + 1)).map (·.1)) ≤ 1099511627776 from by have h := HTL.out; rw [HD.out, List.map_cons, tlen] at h; omega)
              go_wp2_with (at_builtin; go_must (refine wpList_append_own _ rfl _ _ 23 rfl w.heap.size 46 i0' _ 5 72 Tryz.underlying23 hi hi0 hi1 hi2 rfl (by decide) _ Lo.length _ rfl HO7.out _ 1 1 (markC (x, .slice sa x.attrs.length sc)) rfl rfl HN8.out (markC_one x sa _ sc) hb3 hb4 hz7 ?_; intro v8 w8 hown8 hgr8 _; have HO8 := Lib.hid hown8; have HG8 := Lib.hid hgr8; clear hown8 hgr8))
              go_roundw
              case rel => exact ⟨k + 1, Lo ++ [(x, .slice sa x.attrs.length sc)], by omega, by go_num, by rw [List.length_append]; show Lo.length + 1 ≤ _; omega, by rw [List.map_append]; exact HJN.out, by rw [List.length_append, marksV_push]; exact HO8.out, HAT5.out, HB7.out.grown HG8.out hz7 (fun k hk => (HO7.out.lt k hk).1), HTX5.out, HTL5.out⟩
              case measure => simp [intOf]; omega
      · have hkb : (x.kind != 1) = true := by simpa using hkd
        have HJN := Lib.hid (show joinF (Lo.map (·.1) ++ [x]) ((L.drop (k + 1)).map (·.1)) = J from by rw [← HJK.out, HD.out, List.map_cons, join_other hkd])
        have hzr := HBr.out.size
        have hb3 : Lo.length + 1 ≤ maxLen := by unfold maxLen; omega
        have hb4 : (Lo.length + 1) * 72 ≤ 140737488355328 := by omega
        have HN8 := Lib.hid ((at_alloc (w := wr.alloc (.cells #[.int .i64 x.kind, .string (strB x.name), .slice sa x.attrs.length sc, .bool x.self, .string (strB x.text)] 46)) (cur := #[.int .i64 x.kind, .string (strB x.name), .slice sa x.attrs.length sc, .bool x.self, .string (strB x.text)]) (e := 46) (xs := markC (x, .slice sa x.attrs.length sc)) (g := wr.heap.size + 1) (by simp) rfl).news)
        have HO7 := Lib.hid ((HOr.out.alloc (.cells #[.int .i64 x.kind, .string (strB x.name), .slice sa x.attrs.length sc, .bool x.self, .string (strB x.text)] 46)).alloc (.cells #[.int .i64 x.kind, .string (strB x.name), .slice sa x.attrs.length sc, .bool x.self, .string (strB x.text)] 46))
        have hz7 : w.heap.size ≤ ((wr.alloc (.cells #[.int .i64 x.kind, .string (strB x.name), .slice sa x.attrs.length sc, .bool x.self, .string (strB x.text)] 46)).alloc (.cells #[.int .i64 x.kind, .string (strB x.name), .slice sa x.attrs.length sc, .bool x.self, .string (strB x.text)] 46)).heap.size := by simp; omega
        have HB7 := Lib.hid ((HBr.out.alloc hzr (.cells #[.int .i64 x.kind, .string (strB x.name), .slice sa x.attrs.length sc, .bool x.self, .string (strB x.text)] 46)).alloc (by simp; omega) (.cells #[.int .i64 x.kind, .string (strB x.name), .slice sa x.attrs.length sc, .bool x.self, .string (strB x.text)] 46))
        have HAT5 : Hid (AtsSrc w L (Lo ++ [(x, .slice sa x.attrs.length sc)])) := by
          refine ⟨fun q hq => ?_, fun q hq => ?_⟩
          · rcases List.mem_append.1 hq with hq | hq
            · exact HAr.out.1 q hq
            · rw [List.mem_singleton.1 hq]
              exact ⟨sa, sc, rfl, hsn, HSA.out, hsl100⟩
          · rcases List.mem_append.1 hq with hq | hq
            · exact HAr.out.2 q hq
            · rw [List.mem_singleton.1 hq]
              exact ⟨_, HMEM.out, rfl⟩
        have HTX5 := Lib.hid (show ∀ q ∈ Lo ++ [(x, Value.slice sa x.attrs.length sc)], q.1.text.length + tlen ((L.drop (k + 1)).map (·.1)) ≤ 1099511627776 from fun q hq => by
          have ht := HTL.out
          rw [HD.out, List.map_cons, tlen] at ht
          rcases List.mem_append.1 hq with hq | hq
          · have h := HTX.out q hq
            rw [HD.out, List.map_cons, tlen] at h
            omega
          · rw [List.mem_singleton.1 hq]
            exact ht)
        have HTL5 := Lib.hid (show tlen ((L.drop (k + 1)).map (·.1)) ≤ 1099511627776 from by have h := HTL.out; rw [HD.out, List.map_cons, tlen] at h; omega)
        go_wp2_with (at_builtin; go_must (refine wpList_append_own _ rfl _ _ 23 rfl w.heap.size 46 i0' _ 5 72 Tryz.underlying23 hi hi0 hi1 hi2 rfl (by decide) _ Lo.length _ rfl HO7.out _ 1 1 (markC (x, .slice sa x.attrs.length sc)) rfl rfl HN8.out (markC_one x sa _ sc) hb3 hb4 hz7 ?_; intro v8 w8 hown8 hgr8 _; have HO8 := Lib.hid hown8; have HG8 := Lib.hid hgr8; clear hown8 hgr8))
        go_roundw
        case rel => exact ⟨k + 1, Lo ++ [(x, .slice sa x.attrs.length sc)], by omega, by go_num, by rw [List.length_append]; show Lo.length + 1 ≤ _; omega, by rw [List.map_append]; exact HJN.out, by rw [List.length_append, marksV_push]; exact HO8.out, HAT5.out, HB7.out.grown HG8.out hz7 (fun k hk => (HO7.out.lt k hk).1), HTX5.out, HTL5.out⟩
        case measure => simp [intOf]; omega
    · obtain rfl : k = n := by omega
      go_wp2_with fail
      go_ret
      exact ⟨.slice ao Lo.length co, rfl, Lo, by rw [← HJK.out, List.drop_of_length_le (by rw [HN.out]; exact Nat.le_refl _)]; rfl, HOr.out, fun p hp => (by obtain ⟨ao, co, h1, h2, h3, h4⟩ := HAr.out.1 p hp; exact ⟨ao, co, h1, h2, h3.below HBr.out, h4⟩), HAr.out.2, HBr.out⟩
end Go.Proofs.YtbabcohidpcjjaaGreat

/-
  Contract: the document's All: a text's marks. (Seat 4's '.Z'.)
-/
namespace Go.Proofs.YtbabcohidpcjjaaGreat
open Go.RowKit Mem

/-- the attributes in memory, in blocks from a number on -/
def AtsFar (base : Nat) (w : World) (L : MS) : Prop := AtsAt w L ∧ ∀ p ∈ L, ∀ g, p.2.ownBlock = some g → base ≤ g
/-- marks, or an error: the document's attributes may be shared -/
def DMarksAt (base : Nat) (o : List MarkD × Int) (r : Ending) (w' : World) : Prop :=
  (o.2 ≠ 0 ∧ o.1 = [] ∧ r = .returned (.tuple #[.slice none 0 0, .int .i64 o.2])) ∨
  (o.2 = 0 ∧ ∃ (v : Value) (L : MS), r = .returned (.tuple #[v, .int .i64 0]) ∧ L.map (·.1) = o.1 ∧ w'.ownsRow base 46 5 v L.length (marksV L) ∧ AtsFar base w' L)
theorem setDoc_rest (d : DocD) (k : Int) (s : Str) : (setDoc d k s).err = d.err ∧ (setDoc d k s).text = d.text ∧ (setDoc d k s).pos = d.pos ∧ (setDoc d k s).cdata = d.cdata := by
  unfold setDoc
  split <;> exact ⟨rfl, rfl, rfl, rfl⟩
theorem setF_rest (m : MkM) (k : Int) (s : Str) : (setF m k s).err = m.err ∧ (setF m k s).closed = m.closed ∧ (setF m k s).pass = m.pass ∧ (setF m k s).buf = m.buf ∧ (setF m k s).cdata = m.cdata := by
  unfold setF
  split <;> exact ⟨rfl, rfl, rfl, rfl, rfl⟩
theorem DocR.set {d : DocD} {m : MkM} (h : DocR d m) (k : Int) (s : Str) : DocR (setDoc d k s) (setF m k s) := by
  have ha := set_alike d m k s
  obtain ⟨d1, d2, d3, d4⟩ := setDoc_rest d k s
  obtain ⟨m1, m2, m3, m4, m5⟩ := setF_rest m k s
  exact ⟨by rw [m1, d1]; exact h.err, fun he => by rw [m2, m3, m4, d2, d3]; exact h.rest (by rw [← d1]; exact he), ha.1.symm, fun hm => (ha.2 hm).symm, by rw [m5, d4]; exact h.cdata⟩
theorem switch_auto (m : MkM) {x : MarkD} (h : x.kind = 2) : (0 < autoF x.name → switchF m x = setF m (autoF x.name) x.name) ∧ (¬ 0 < autoF x.name → switchF m x = m) := by
  unfold switchF autoF
  rw [if_neg (show ¬ x.kind ≠ 2 from fun k => k h)]
  by_cases h1 : refW.contains x.name = true
  · rw [if_pos h1, if_pos h1]
    exact ⟨fun _ => rfl, fun k => absurd (show (0 : Int) < 1 by decide) k⟩
  · rw [if_neg h1, if_neg h1]
    by_cases h2 : rawW.contains x.name = true
    · rw [if_pos h2, if_pos h2]
      exact ⟨fun _ => rfl, fun k => absurd (show (0 : Int) < 2 by decide) k⟩
    · rw [if_neg h2, if_neg h2]
      exact ⟨fun k => absurd k (by decide), fun _ => rfl⟩
theorem switch_other (m : MkM) {x : MarkD} (h : x.kind ≠ 2) : switchF m x = m := by
  unfold switchF
  rw [if_pos h]
theorem setDoc_name (d : DocD) (k : Int) (s : Str) : (setDoc d k s).name.length ≤ s.length := by
  unfold setDoc
  split
  · exact Nat.le_refl _
  · exact Nat.zero_le _
/-- the closed machine of a text -/
def doneM (t : Str) : MkM := { wholeM t with closed := true }
theorem doneM_ok (t : Str) : InvM (doneM t) := ⟨putF_ok t false, .inl rfl, fun h => by have : (0 : Int) = 1 ∨ (0 : Int) = 2 := h; omega⟩
theorem newD_doc (t : Str) : DocR (newD t) (doneM t) :=
  ⟨rfl, fun _ => ⟨rfl, rfl, by show putF false t = (strB (putF false t)).toList.drop 0; rw [toList_strB]; rfl, Nat.zero_le _⟩, rfl, fun h => absurd rfl h, rfl⟩
set_option maxRecDepth 100000 in
set_option maxHeartbeats 8000000 in
theorem dAll_any (s : ByteArray) (w : World) (hl : s.size ≤ 100000000) :
    Calls Tryz.prog 7 #[.string s] w fun r w' => DMarksAt w.heap.size (marksF s.toList) r w' ∧ Below w.heap.size w w' := by
  obtain ⟨A, hA⟩ : ∃ A, A = marksF s.toList := ⟨_, rfl⟩
  rw [← hA]
  have hA2 := marks_whole s.toList
  rw [← hA] at hA2
  obtain ⟨M0, hM0⟩ : ∃ M0, M0 = doneM s.toList := ⟨_, rfl⟩
  rw [show ({ wholeM s.toList with closed := true } : MkM) = M0 from hM0.symm] at hA2
  obtain ⟨o, ho⟩ : ∃ o, o = drainF M0 := ⟨_, rfl⟩
  rw [← ho] at hA2
  have hgood := (drainF_ok _ M0 (Nat.le_refl _) (by rw [hM0]; exact doneM_ok _) (.inl (by rw [hM0]; rfl))).2.2
  have hroom := drainF_room _ M0 (Nat.le_refl _) (by rw [hM0]; exact Nat.zero_le _)
  have hdm := doM_le M0
  have hpl : M0.buf.length ≤ 3 * s.size := by rw [hM0, ← size_toList]; exact putF_len _ _
  rw [← ho] at hgood hroom
  have HA := Lib.hid hA2
  have HO := Lib.hid ho
  have HG := Lib.hid hgood
  have HR := Lib.hid hroom.1
  have hD0 : DocR (newD s.toList) M0 := by rw [hM0]; exact newD_doc _
  have HD0 := Lib.hid hD0
  have hdm9 : doM M0 ≤ 1000000000 := by omega
  have hbl9 : 2 * M0.buf.length ≤ 1000000000 := by omega
  have hnz : (newD s.toList).text.size ≤ 1000000000 := by
    show (strB (putF false s.toList)).size ≤ _
    rw [strB_size]
    have := putF_len s.toList false
    rw [size_toList] at this
    omega
  obtain ⟨i0', hi, hi0, hi1, hi2⟩ := info_parts info_mark
  obtain ⟨d0, hd0⟩ : ∃ d0, d0 = newD s.toList := ⟨_, rfl⟩
  have HN := Lib.hid (dNew_any s w (by omega))
  rw [← hd0] at HN HD0 hnz
  have hd0n : d0.name.length ≤ 4294967270 := by rw [hd0]; exact Nat.zero_le _
  clear hA hA2 hM0 ho hgood hroom hdm hpl hD0 hd0
  go_enter Tryz.func7, Tryz.ntmps7
  go_wp2_with fail
  refine HN.out.mono ?_
  rintro r w1 ⟨b, rfl, hbb, hrow, hb⟩
  have HB1 := Lib.hid hb
  have HR1 := Lib.hid hrow
  have hbw := hrow.lt
  clear hb hrow HN
  dsimp only
  go_wp2_with fail
  go_loopg [5] (doM M0) (fun g v wr => ∃ (d1 : DocD) (m1 : MkM) (L : MS), DocR d1 m1 ∧ d1.text.size ≤ 1000000000 ∧ d1.name.length ≤ 4294967270 ∧ doM m1 ≤ g ∧ L.length + doM m1 ≤ doM M0 ∧ (L.map (·.1) ++ (drainF m1).1, (drainF m1).2) = o ∧ Row wr b (docV d1) ∧ Keeps (Only b) w1 wr ∧ wr.ownsRow w1.heap.size 46 5 v L.length (marksV L) ∧ AtsOwn w1.heap.size L wr)
  case atStart => exact ⟨d0, M0, [], HD0.out, hnz, hd0n, Nat.le_refl _, by simp, HO.out.symm, HR1.out, Keeps.refl _ _, World.ownsRow_nil _ _ _ _, fun p hp => (by cases hp)⟩
  case round =>
    obtain ⟨d1, m1, L, hdr, hts, hnl, hg, hgl, hv, hrow, hkk, hro, hao⟩ := hrel
    have HV := Lib.hid hv
    have HKr := Lib.hid hkk
    have HOr := Lib.hid hro
    have HAr := Lib.hid hao
    have hzr := hkk.size
    have hnx := dNext_any d1 m1 b wr hrow hdr hts hnl
    obtain ⟨q, hq⟩ : ∃ q, q = readF m1 := ⟨_, rfl⟩
    rw [← hq] at hnx
    have HNX := Lib.hid hnx
    have HRL := Lib.hid (read_less _ m1 (Nat.le_refl _))
    have HRN := Lib.hid (readF_name _ m1 (Nat.le_refl _))
    rw [← hq] at HRL HRN
    have HQ := Lib.hid hq
    have hts2 := hts
    clear hv hrow hkk hro hao hdr hnx hq HR1 HD0 hnz hd0n
    go_wp2_with fail
    refine HNX.out.mono ?_
    rintro r W1 ⟨⟨d2, hdr2, hrow2, ht2, hn2⟩, k1, hres⟩
    have HDR := Lib.hid hdr2
    have HR2 := Lib.hid hrow2
    have hd2s : d2.text.size ≤ 1000000000 := by rw [ht2]; exact hts2
    have HK1 := Lib.hid (HKr.out.trans k1)
    have HO1 := Lib.hid (own_kept HOr.out fun g hgo => k1.block g (HOr.out.lt g hgo).2 (by show ¬ g = b; have := (HOr.out.lt g hgo).1; omega))
    have HA1 := Lib.hid (HAr.out.keeps hbw k1)
    have hz1 := Nat.le_trans hzr k1.size
    have hbW := hrow2.lt
    clear hdr2 hrow2 k1 HNX HKr HOr HAr ht2
    obtain ⟨ox, m2⟩ := q
    obtain ⟨ua, uc, hu5, hu5n, -, -, -⟩ := own_at HO1.out
    cases ox with
    | none =>
      have hres' : r = .returned (.tuple #[markV (.slice none 0 0) (if m2.err ≠ 0 then noM else bareM 6), .int .i64 m2.err]) := hres
      subst hres'
      have HOO := Lib.hid (show (L.map (·.1), m2) = o from by rw [← HV.out, drainF_none HQ.out.symm, List.append_nil])
      clear hres
      by_cases he : m2.err = 0
      · rw [he, if_neg (fun h => h rfl)]
        rw [show markV (.slice none 0 0) (bareM 6) = .agg #[.int .i64 6, .string ⟨#[]⟩, .slice none 0 0, .bool false, .string ⟨#[]⟩] from rfl]
        have HE := Lib.hid he
        subst hu5
        obtain ⟨ua', uc', hu', -, -, -, hat⟩ := own_at HO1.out
        cases hu'
        have HAT := Lib.hid (hat.below ((Below.refl _ _).alloc (Nat.le_refl _) (.cells #[.int .i64 6, .string ⟨#[]⟩, .slice none 0 0, .bool false, .string ⟨#[]⟩] 46)))
        have HAA : Hid (AtsAt (W1.alloc (.cells #[.int .i64 6, .string ⟨#[]⟩, .slice none 0 0, .bool false, .string ⟨#[]⟩] 46)) L) := ats_at (base := w1.heap.size) (fun p hp => (HA1.out p hp).alloc _) fun p hp => (HG.out p.1 (by rw [← HOO.out]; exact List.mem_map_of_mem hp)).few
        have HK2 := Lib.hid (HK1.out.alloc (.cells #[.int .i64 6, .string ⟨#[]⟩, .slice none 0 0, .bool false, .string ⟨#[]⟩] 46))
        have htl : tlen (L.map (·.1)) ≤ 1099511627776 := by
          have := HR.out
          rw [← HOO.out] at this
          simp only at this
          omega
        have HTL := Lib.hid htl
        have HAE : Hid (A = (joinF [] (L.map (·.1)), 0)) := by
          show _ = _
          rw [HA.out, ← HOO.out, if_neg (fun h => h HE.out)]
        have hzW : w.heap.size ≤ (W1.alloc (.cells #[.int .i64 6, .string ⟨#[]⟩, .slice none 0 0, .bool false, .string ⟨#[]⟩] 46)).heap.size := by have := HB1.out.size; simp; omega
        clear he htl hat
        dsimp only
        go_wp2_with fail
        refine (dJoin_any L _ _ _ HAT.out HAA.out (by omega) HTL.out).mono ?_
        rintro r W3 ⟨v, Lo, rfl, hlo, hown, hats, hsrc, hb⟩
        dsimp only
        go_wp2_with fail
        go_ret2
        rw [HAE.out]
        exact ⟨.inr ⟨rfl, v, Lo, rfl, hlo, own_base hown hzW, hats, fun p hp g hg => by obtain ⟨q, hq, e⟩ := hsrc p hp; rw [e] at hg; have := (HA1.out q hq).lt g hg; have := HB1.out.size; omega⟩, (below_keeps HB1.out hbb HK2.out).trans (hb.mono hzW)⟩
      · have heb : (m2.err != 0) = true := bne_iff_ne.2 he
        rw [if_pos he]
        rw [show markV (.slice none 0 0) noM = .agg #[.int .i64 0, .string ⟨#[]⟩, .slice none 0 0, .bool false, .string ⟨#[]⟩] from rfl]
        have HE := Lib.hid he
        have HK2 := Lib.hid (HK1.out.alloc (.cells #[.int .i64 0, .string ⟨#[]⟩, .slice none 0 0, .bool false, .string ⟨#[]⟩] 46))
        have HAE : Hid (A = ([], m2.err)) := by
          show _ = _
          rw [HA.out, ← HOO.out, if_pos HE.out]
        clear he
        dsimp only
        go_wp2_with fail
        go_ret2
        rw [HAE.out]
        exact ⟨.inl ⟨HE.out, rfl, rfl⟩, below_keeps HB1.out hbb HK2.out⟩
    | some x =>
      obtain ⟨sl, rfl, hown⟩ := hres
      have hless : doM m2 < doM m1 := HRL.out x m2 rfl
      have hxn := (HRN.out x m2 rfl).2
      have HVS := Lib.hid (show (L.map (·.1) ++ (x :: (drainF (switchF m2 x)).1), (drainF (switchF m2 x)).2) = o from by rw [← HV.out, drainF_some HQ.out.symm])
      have hgd : GoodMark x := HG.out x (by rw [← HVS.out]; simp)
      have hk6 : (x.kind == 6) = false := by rw [beq_eq_false_iff_ne]; have := hgd.kind; omega
      obtain ⟨a, c, hsl, -⟩ := own_at hown
      subst hsl
      have HOW := Lib.hid (own_base hown hzr)
      clear hown hgd HQ
      obtain ⟨X, hX⟩ : ∃ X, X = W1.heap.size := ⟨_, rfl⟩
      obtain ⟨W2, hW2⟩ : ∃ W2, W2 = W1.alloc (.cells #[.int .i64 x.kind, .string (strB x.name), .slice a x.attrs.length c, .bool x.self, .string (strB x.text)] 46) := ⟨_, rfl⟩
      have HR3 := Lib.hid (show Row W2 b (docV d2) from hW2 ▸ HR2.out.kept (heap_alloc_old _ _ hbW))
      have HX2 : Hid (W2.heap[X]? = some (.cells #[.int .i64 x.kind, .string (strB x.name), .slice a x.attrs.length c, .bool x.self, .string (strB x.text)] 46 (0, 0))) := by show _ = _; rw [hW2, hX]; exact heap_alloc_new _ _
      have HK2 := Lib.hid (show Keeps (Only b) w1 W2 from hW2 ▸ HK1.out.alloc _)
      have HO2 := Lib.hid (show W2.ownsRow w1.heap.size 46 5 u5 L.length (marksV L) from hW2 ▸ HO1.out.alloc _)
      have HA2 := Lib.hid (show AtsOwn w1.heap.size (L ++ [(x, .slice a x.attrs.length c)]) W2 from by
        rw [hW2]
        intro p hp
        rcases List.mem_append.1 hp with hp | hp
        · exact (HA1.out p hp).alloc _
        · rw [List.mem_singleton.1 hp]; exact HOW.out.alloc _)
      have HW2 := Lib.hid hW2
      have hz2 : w1.heap.size ≤ W2.heap.size := by rw [hW2]; simp; omega
      have hXb : X ≠ b := by omega
      have hXz : X < W2.heap.size := by rw [hW2, hX]; simp
      obtain ⟨⟨x0, x1, x2, x3, x4⟩, -⟩ := markX_cells HX2.out
      have HN := Lib.hid ((at_alloc (w := W2) (cur := #[.int .i64 x.kind, .string (strB x.name), .slice a x.attrs.length c, .bool x.self, .string (strB x.text)]) (e := 46) (xs := markC (x, .slice a x.attrs.length c)) rfl rfl).news)
      have HO7 := Lib.hid (HO2.out.alloc (.cells #[.int .i64 x.kind, .string (strB x.name), .slice a x.attrs.length c, .bool x.self, .string (strB x.text)] 46))
      have hz7 : w1.heap.size ≤ (W2.alloc (.cells #[.int .i64 x.kind, .string (strB x.name), .slice a x.attrs.length c, .bool x.self, .string (strB x.text)] 46)).heap.size := by simp; omega
      have HR7 := Lib.hid (HR3.out.kept (heap_alloc_old W2 (.cells #[.int .i64 x.kind, .string (strB x.name), .slice a x.attrs.length c, .bool x.self, .string (strB x.text)] 46) HR3.out.lt))
      have HX7 := Lib.hid ((heap_alloc_old W2 (.cells #[.int .i64 x.kind, .string (strB x.name), .slice a x.attrs.length c, .bool x.self, .string (strB x.text)] 46) hXz).trans HX2.out)
      have HK7 := Lib.hid (HK2.out.alloc (.cells #[.int .i64 x.kind, .string (strB x.name), .slice a x.attrs.length c, .bool x.self, .string (strB x.text)] 46))
      have HA7 := Lib.hid (show AtsOwn w1.heap.size (L ++ [(x, .slice a x.attrs.length c)]) (W2.alloc (.cells #[.int .i64 x.kind, .string (strB x.name), .slice a x.attrs.length c, .bool x.self, .string (strB x.text)] 46)) from fun p hp => (HA2.out p hp).alloc _)
      have hb1 : L.length + 1 ≤ maxLen := by unfold maxLen; omega
      have hb2 : (L.length + 1) * 72 ≤ 140737488355328 := by omega
      have hcnt : L.length + 1 + doM m2 ≤ doM M0 := by omega
      have HXO : Hid (u5.ownBlock ≠ some X) := fun e => by
        have h1 := (HO1.out.lt X e).2
        omega
      clear hW2 HOW HO1 HA1 HK1 HR2
      dsimp only [markV]
      go_upto_region 8 with fail
      rw [← HW2.out, ← hX]
      clear HW2 hX
      by_cases hk2 : x.kind = 2
      · have hk2b : (x.kind == 2) = true := beq_iff_eq.2 hk2
        have HAU := Lib.hid (fun u => Auto_any x.name u)
        have HSA := Lib.hid (switch_auto m2 hk2)
        clear hk2
        go_wp2_with (at_builtin; go_must (refine wpList_append_own _ rfl _ _ 23 rfl w1.heap.size 46 i0' _ 5 72 Tryz.underlying23 hi hi0 hi1 hi2 rfl (by decide) _ L.length _ rfl HO7.out _ 1 1 (markC (x, .slice a x.attrs.length c)) rfl rfl HN.out (markC_one x a _ c) hb1 hb2 hz7 ?_; intro v8 w8 hown8 hgr8 _; have HO8 := Lib.hid hown8; have HG8 := Lib.hid hgr8; clear hown8 hgr8; have HR8 := Lib.hid (HR7.out.kept (HG8.out.block b HR7.out.lt fun e => absurd (HO7.out.lt b e.symm).1 (Nat.not_le_of_lt hbw))); have HK8 := Lib.hid (keeps_grow HK7.out HG8.out (fun k hk => (HO7.out.lt k hk).1)); have HA8 := Lib.hid (HA7.out.grown HO7.out HG8.out); have hX8 := (HG8.out.block X (by simp; omega) fun e => HXO.out e.symm).trans HX7.out; have HX8 := Lib.hid hX8; clear x0 x1 x2 x3 x4; obtain ⟨⟨x0, x1, x2, x3, x4⟩, -⟩ := markX_cells hX8; clear hX8))
        refine (HAU.out _).mono ?_
        rintro r wx ⟨rfl, rfl⟩
        dsimp only
        obtain ⟨z, hz⟩ : ∃ z, z = autoF x.name := ⟨_, rfl⟩
        rw [← hz]
        rw [← hz] at HAU HSA
        by_cases hau : 0 < z
        · have HSW := Lib.hid (HSA.out.1 hau)
          clear HSA hz
          go_wp2_with fail
          go_region_with (first
            | (go_at_call 24; go_must (refine (HAU.out _).mono ?_; rintro r wx ⟨rfl, rfl⟩))
            | (go_at_call 22; go_must (refine (Set_any d2 b z (strB x.name) _ (by first | exact HR8.out | exact row_drew HR8.out) (by rw [strB_size]; omega)).mono ?_; rintro r w9 ⟨rfl, hr9, hk9⟩; rw [toList_strB] at hr9; have HR9 := Lib.hid hr9; have HK9 := Lib.hid (show Keeps (Only b) w8 w9 from by first | exact hk9 | exact ((Keeps.refl (Only b) w8).drew).trans hk9); clear hr9 hk9)))
          all_goals
            have HVN := Lib.hid (show ((L ++ [(x, Value.slice a x.attrs.length c)]).map (·.1) ++ (drainF (setF m2 z x.name)).1, (drainF (setF m2 z x.name)).2) = o from by rw [← HVS.out, HSW.out, List.map_append, List.append_assoc]; rfl)
            have hdo := doM_switch m2 x
            rw [HSW.out] at hdo
            have HDO := Lib.hid hdo
            have HNL := Lib.hid (setDoc_name d2 z x.name)
            have HTX := Lib.hid (setDoc_rest d2 z x.name).2.1
            clear hdo
            go_wp2_with fail
            go_roundg (doM m2)
            case measure => omega
            case rel => exact ⟨setDoc d2 z x.name, setF m2 z x.name, L ++ [(x, .slice a x.attrs.length c)], HDR.out.set z x.name, by rw [HTX.out]; exact hd2s, by have := HNL.out; omega, by rw [HDO.out]; exact Nat.le_refl _, by rw [List.length_append, HDO.out]; exact hcnt, HVN.out, HR9.out, HK8.out.trans HK9.out, by rw [List.length_append, marksV_push]; exact own_kept HO8.out fun g hgo => HK9.out.block g (HO8.out.lt g hgo).2 (by show ¬ g = b; have := (HO8.out.lt g hgo).1; omega), HA8.out.keeps hbw HK9.out⟩
        · have HSW := Lib.hid (HSA.out.2 (by omega))
          clear HSA hz
          go_wp2_with fail
          have HVN := Lib.hid (show ((L ++ [(x, Value.slice a x.attrs.length c)]).map (·.1) ++ (drainF m2).1, (drainF m2).2) = o from by rw [← HVS.out, HSW.out, List.map_append, List.append_assoc]; rfl)
          go_roundg (doM m2)
          case measure => omega
          case rel => exact ⟨d2, m2, L ++ [(x, .slice a x.attrs.length c)], HDR.out, hd2s, hn2, Nat.le_refl _, by rw [List.length_append]; exact hcnt, HVN.out, HR8.out, HK8.out, by rw [List.length_append, marksV_push]; exact HO8.out, HA8.out⟩
      · have hk2b : (x.kind == 2) = false := beq_eq_false_iff_ne.2 hk2
        have HSW := Lib.hid (switch_other m2 hk2)
        clear hk2
        go_wp2_with (at_builtin; go_must (refine wpList_append_own _ rfl _ _ 23 rfl w1.heap.size 46 i0' _ 5 72 Tryz.underlying23 hi hi0 hi1 hi2 rfl (by decide) _ L.length _ rfl HO7.out _ 1 1 (markC (x, .slice a x.attrs.length c)) rfl rfl HN.out (markC_one x a _ c) hb1 hb2 hz7 ?_; intro v8 w8 hown8 hgr8 _; have HO8 := Lib.hid hown8; have HG8 := Lib.hid hgr8; clear hown8 hgr8; have HR8 := Lib.hid (HR7.out.kept (HG8.out.block b HR7.out.lt fun e => absurd (HO7.out.lt b e.symm).1 (Nat.not_le_of_lt hbw))); have HK8 := Lib.hid (keeps_grow HK7.out HG8.out (fun k hk => (HO7.out.lt k hk).1)); have HA8 := Lib.hid (HA7.out.grown HO7.out HG8.out); have hX8 := (HG8.out.block X (by simp; omega) fun e => HXO.out e.symm).trans HX7.out; have HX8 := Lib.hid hX8; clear x0 x1 x2 x3 x4; obtain ⟨⟨x0, x1, x2, x3, x4⟩, -⟩ := markX_cells hX8; clear hX8))
        have HVN := Lib.hid (show ((L ++ [(x, Value.slice a x.attrs.length c)]).map (·.1) ++ (drainF m2).1, (drainF m2).2) = o from by rw [← HVS.out, HSW.out, List.map_append, List.append_assoc]; rfl)
        go_roundg (doM m2)
        case measure => omega
        case rel => exact ⟨d2, m2, L ++ [(x, .slice a x.attrs.length c)], HDR.out, hd2s, hn2, Nat.le_refl _, by rw [List.length_append]; exact hcnt, HVN.out, HR8.out, HK8.out, by rw [List.length_append, marksV_push]; exact HO8.out, HA8.out⟩
end Go.Proofs.YtbabcohidpcjjaaGreat
