import Derived.Test.YtbabcohidpcjjaaGreatZMkBase
import Derived.Test.YtbabcohidpcjjaaGreatZRefD
import Derived.Test.YtbabcohidpcjjaaGreatZSpec
/-
  Contracts: marks.folds, marks' machine: unless, ends: what stands at a <.
-/
namespace Go.Proofs.YtbabcohidpcjjaaGreat
open Go.RowKit Mem

theorem min_int (a b : Nat) : min (a : Int) (b : Int) = ((min a b : Nat) : Int) := by omega
theorem ret2_bool {a b c d : Bool} (h : a = b) (h' : c = d) : Ending.returned (.tuple #[.bool a, .bool c]) = .returned (.tuple #[.bool b, .bool d]) := by rw [h, h']
set_option maxRecDepth 100000 in
set_option maxHeartbeats 2000000 in
theorem folds_any (s word : ByteArray) (w : World) (hs : s.size ≤ 4294967280) :
    Calls Tryz.prog 108 #[.string s, .string word] w fun e w' => e = .returned (.tuple #[.bool (foldsF s.toList word.toList).1, .bool (foldsF s.toList word.toList).2]) ∧ Below w.heap.size w w' := by
  obtain ⟨k, hk⟩ : ∃ k, k = min s.size word.size := ⟨_, rfl⟩
  have hmin : min (s.size : Int) (word.size : Int) = (k : Int) := by omega
  have hks : k ≤ s.size := by omega
  have hkw : k ≤ word.size := by omega
  have hF : foldsF s.toList word.toList = if lowS (s.toList.take k) ≠ word.toList.take k then (false, false) else (k == word.size, decide (k < word.size)) := by
    unfold foldsF
    rw [size_toList, size_toList, ← hk]
  have e1 : (s.extract 0 k).toList = s.toList.take k := by rw [ext_list, List.drop_zero, Nat.sub_zero]
  have e2 : (word.extract 0 k).toList = word.toList.take k := by rw [ext_list, List.drop_zero, Nat.sub_zero]
  have hsm := fun u => small_any (s.extract 0 k) u (by unfold maxLen; rw [ByteArray.size_extract]; omega)
  rw [← e1, ← e2] at hF
  have eA : (strB (lowS (s.extract 0 k).toList)).toList = lowS (s.extract 0 k).toList := toList_strB _
  rw [← eA] at hF
  obtain ⟨A, hA⟩ : ∃ A, A = strB (lowS (s.extract 0 k).toList) := ⟨_, rfl⟩
  rw [← hA] at hF hsm
  have HS := Lib.hid hsm
  obtain ⟨o, ho⟩ : ∃ o, o = foldsF s.toList word.toList := ⟨_, rfl⟩
  rw [← ho] at hF ⊢
  clear hsm hA eA e1 e2 hk ho
  by_cases hc : A.toList = (word.extract 0 k).toList
  · rw [if_neg (fun h => h hc)] at hF
    have HF := Lib.hid hF
    have hn : (A.toList == (word.extract 0 k).toList) = true := by rw [hc]; simp
    clear hF hc
    go_enter Tryz.func108, Tryz.ntmps108
    go_wp2_with fail
    refine wp_region_calm (by kernel_rfl) (by kernel_rfl) ?_
    repeat
      with_reducible refine wpQuiet_step (fun K hK => ?_)
      first
        | (with_reducible apply calm_skip
           · rfl
           simp only [Act.put, List.setIfInBounds_toArray, List.set_cons_zero, List.set_cons_succ]
           refine hK _ ?_
           clear hK K)
        | (with_reducible apply calm_run
           · rfl
           · intro wq hC
             unfold Oper.quietAt
             go_simp
             first | done | (go_at_call 93; go_must (refine (HS.out _).mono ?_; rintro e wx ⟨rfl, hb⟩; exact ⟨rfl, belowCall hC hb⟩)) | with_reducible rfl | rfl
           simp only [Act.put, List.setIfInBounds_toArray, List.set_cons_zero, List.set_cons_succ]
           refine hK _ ?_
           clear hK K)
    with_reducible refine wpQuiet_nil ?_
    intro wq HQ
    go_wp2_with fail
    go_ret2
    exact ⟨ret2_bool (by rw [HF.out]; first | done | (show ((k : Int) == (word.size : Int)) = (k == word.size); rw [Bool.eq_iff_iff, beq_iff_eq, beq_iff_eq]; omega)) (by rw [HF.out]; first | done | (simp; done) | (apply decide_eq_decide.2; omega)), HQ.out⟩
  · rw [if_pos hc] at hF
    have HF := Lib.hid hF
    have hn : (A.toList == (word.extract 0 k).toList) = false := by simpa using hc
    clear hF hc
    go_enter Tryz.func108, Tryz.ntmps108
    go_wp2_with fail
    refine wp_region_calm (by kernel_rfl) (by kernel_rfl) ?_
    repeat
      with_reducible refine wpQuiet_step (fun K hK => ?_)
      first
        | (with_reducible apply calm_skip
           · rfl
           simp only [Act.put, List.setIfInBounds_toArray, List.set_cons_zero, List.set_cons_succ]
           refine hK _ ?_
           clear hK K)
        | (with_reducible apply calm_run
           · rfl
           · intro wq hC
             unfold Oper.quietAt
             go_simp
             first | done | (go_at_call 93; go_must (refine (HS.out _).mono ?_; rintro e wx ⟨rfl, hb⟩; exact ⟨rfl, belowCall hC hb⟩)) | with_reducible rfl | rfl
           simp only [Act.put, List.setIfInBounds_toArray, List.set_cons_zero, List.set_cons_succ]
           refine hK _ ?_
           clear hK K)
    with_reducible refine wpQuiet_nil ?_
    intro wq HQ
    go_wp2_with fail
    go_ret2
    exact ⟨ret2_bool (by rw [HF.out]) (by rw [HF.out]), HQ.out⟩

theorem unless_any (m : MkM) (b : Nat) (k : Int) (w : World) (hr : Row w b (machV m)) : Calls Tryz.prog 89 #[.pointer (some ⟨b, 0, none⟩), .int .i64 k] w fun e w' => e = .returned (.int .i64 (unlessF m.closed k)) ∧ w = w' := by
  obtain ⟨-, -, hc2, -⟩ := mach_row hr
  clear hr
  cases hcl : m.closed
  all_goals
    rw [hcl] at hc2
    clear hcl
    go_enter Tryz.func89, Tryz.ntmps89
    go_wp2_with fail
    go_ret
    exact ⟨rfl, rfl⟩

set_option maxRecDepth 100000 in
set_option maxHeartbeats 2000000 in
theorem ends_any (m : MkM) (b : Nat) (s : ByteArray) (w : World) (hr : Row w b (machV m)) (hs : s.size ≤ 4294967280) (hn : m.name.length ≤ 4294967280) :
    Calls Tryz.prog 88 #[.pointer (some ⟨b, 0, none⟩), .string s] w fun e w' => e = .returned (.int .i64 (endsF m s.toList)) ∧ Below w.heap.size w w' := by
  obtain ⟨-, -, -, -, hc4, -⟩ := mach_row hr
  have HR := Lib.hid hr
  clear hr
  obtain ⟨word, hw⟩ : ∃ word : ByteArray, word = (⟨#[60, 47]⟩ : ByteArray) ++ strB m.name := ⟨_, rfl⟩
  have hwl : word.toList = [60, 47] ++ m.name := by
    rw [hw, ByteArray.toList_eq, ByteArray.data_append, Array.toList_append]
    rfl
  have hwz : word.size = m.name.length + 2 := by rw [← size_toList, hwl]; simp
  have HFo := Lib.hid (fun u => folds_any s word u hs)
  have hE : endsF m s.toList = if (foldsF s.toList word.toList).2 = true ∨ ((foldsF s.toList word.toList).1 = true ∧ s.size = word.size) then unlessF m.closed 0
      else if (foldsF s.toList word.toList).1 = true ∧ (gapB (s.toList.getD word.size 0) || s.toList.getD word.size 0 == 62) = true then 3 else 0 := by
    unfold endsF
    rw [hwl, size_toList, hwz]
  obtain ⟨o, ho⟩ : ∃ o, o = endsF m s.toList := ⟨_, rfl⟩
  rw [← ho] at hE ⊢
  have hfw : (foldsF s.toList word.toList).1 = true → word.size ≤ s.size := fun h => by
    have := (folds_whole h).1; rw [size_toList, size_toList] at this; exact this
  have hlow : word.size ≤ 4294967282 := by omega
  have hcat : ¬ 9223372036854775807 < 2 + (strB m.name).size := by rw [strB_size]; omega
  generalize foldsF s.toList word.toList = f at *
  obtain ⟨f1, f2⟩ := f
  simp only at hE hfw HFo
  clear ho hwz hwl
  have HW : Hid ((⟨#[60, 47]⟩ : ByteArray) ++ strB m.name = word) := hw.symm
  clear hw
  cases f2
  · cases f1
    · have HE := Lib.hid (show o = 0 from hE.trans (by simp))
      clear hE hfw
      go_enter Tryz.func88, Tryz.ntmps88
      go_wp2_with (go_at_call 108; go_must (rw [HW.out]; refine (HFo.out _).mono ?_; rintro e w1 ⟨rfl, hb⟩; have HB := Lib.hid hb; clear hb))
      go_ret
      exact ⟨by rw [HE.out]; rfl, HB.out⟩
    · have hlen := hfw rfl
      clear hfw
      by_cases hsz : s.size = word.size
      · have HE := Lib.hid (hE.trans (if_pos (.inr ⟨rfl, hsz⟩)))
        clear hE
        have hszb : ((s.size : Int) == (word.size : Int)) = true := by rw [hsz]; simp
        go_enter Tryz.func88, Tryz.ntmps88
        go_wp2_with (first
          | (go_at_call 108; go_must (rw [HW.out]; refine (HFo.out _).mono ?_; rintro e w1 ⟨rfl, hb⟩; have HB := Lib.hid hb; clear hb))
          | (go_at_call 89; go_must (refine (unless_any m b 0 _ (HR.out.below HB.out HR.out.lt)).mono ?_; rintro e w2 ⟨rfl, rfl⟩)))
        go_ret
        exact ⟨by rw [HE.out]; rfl, HB.out⟩
      · have hlt : word.size < s.size := by omega
        rw [if_neg (by simp [hsz])] at hE
        have hszb : ((s.size : Int) == (word.size : Int)) = false := by rw [beq_eq_false_iff_ne]; omega
        have hget : s.toList.getD word.size 0 = s[word.size] := by
          rw [List.getD_eq_getElem?_getD, ByteArray.toList_eq, Lib.data_getElem? s _ hlt]; rfl
        rw [hget] at hE
        have hsp := fun u => space_any s[word.size] u
        unfold gapB at hE
        rw [ueq s[word.size] 47, ueq s[word.size] 62] at hE
        have hu := s[word.size].toNat_lt
        cases hs1 : spaceB s[word.size]
        · rw [hs1] at hE hsp
          have HSP := Lib.hid hsp
          by_cases h47 : (s[word.size].toNat : Int) = 47
          · have e47 : ((s[word.size].toNat : Int) == 47) = true := beq_iff_eq.2 h47
            have HE := Lib.hid (hE.trans (if_pos ⟨rfl, by show (_ || ((s[word.size].toNat : Int) == 47) || _) = true; rw [e47]; rfl⟩))
            clear hE hs1 hsp hget h47
            go_enter Tryz.func88, Tryz.ntmps88
            go_wp2_with (first
              | (go_at_call 108; go_must (rw [HW.out]; refine (HFo.out _).mono ?_; rintro e w1 ⟨rfl, hb⟩; have HB := Lib.hid hb; clear hb))
              | (go_at_call 94; go_must (refine (HSP.out _).mono ?_; rintro e w2 ⟨rfl, rfl⟩)))
            go_ret
            exact ⟨by rw [HE.out]; rfl, HB.out⟩
          · have e47 : ((s[word.size].toNat : Int) == 47) = false := beq_eq_false_iff_ne.2 h47
            cases h62 : ((s[word.size].toNat : Int) == 62)
            · have HE := Lib.hid (hE.trans (if_neg (fun h => by have := h.2; change (_ || ((s[word.size].toNat : Int) == 47) || ((s[word.size].toNat : Int) == 62)) = true at this; rw [e47, h62] at this; cases this)))
              clear hE hs1 hsp hget h47
              go_enter Tryz.func88, Tryz.ntmps88
              go_wp2_with (first
                | (go_at_call 108; go_must (rw [HW.out]; refine (HFo.out _).mono ?_; rintro e w1 ⟨rfl, hb⟩; have HB := Lib.hid hb; clear hb))
                | (go_at_call 94; go_must (refine (HSP.out _).mono ?_; rintro e w2 ⟨rfl, rfl⟩)))
              go_ret
              exact ⟨by rw [HE.out]; rfl, HB.out⟩
            · have HE := Lib.hid (hE.trans (if_pos ⟨rfl, by show (_ || _ || ((s[word.size].toNat : Int) == 62)) = true; rw [h62, Bool.or_true]⟩))
              clear hE hs1 hsp hget h47
              go_enter Tryz.func88, Tryz.ntmps88
              go_wp2_with (first
                | (go_at_call 108; go_must (rw [HW.out]; refine (HFo.out _).mono ?_; rintro e w1 ⟨rfl, hb⟩; have HB := Lib.hid hb; clear hb))
                | (go_at_call 94; go_must (refine (HSP.out _).mono ?_; rintro e w2 ⟨rfl, rfl⟩)))
              go_ret
              exact ⟨by rw [HE.out]; rfl, HB.out⟩
        · rw [hs1] at hE hsp
          have HSP := Lib.hid hsp
          have HE := Lib.hid (hE.trans (if_pos ⟨rfl, by simp⟩))
          clear hE hs1 hsp hget
          go_enter Tryz.func88, Tryz.ntmps88
          go_wp2_with (first
            | (go_at_call 108; go_must (rw [HW.out]; refine (HFo.out _).mono ?_; rintro e w1 ⟨rfl, hb⟩; have HB := Lib.hid hb; clear hb))
            | (go_at_call 94; go_must (refine (HSP.out _).mono ?_; rintro e w2 ⟨rfl, rfl⟩)))
          go_ret
          exact ⟨by rw [HE.out]; rfl, HB.out⟩
  · have HE := Lib.hid (hE.trans (if_pos (.inl rfl)))
    clear hE hfw
    go_enter Tryz.func88, Tryz.ntmps88
    go_wp2_with (first
      | (go_at_call 108; go_must (rw [HW.out]; refine (HFo.out _).mono ?_; rintro e w1 ⟨rfl, hb⟩; have HB := Lib.hid hb; clear hb))
      | (go_at_call 89; go_must (refine (unless_any m b 0 _ (HR.out.below HB.out HR.out.lt)).mono ?_; rintro e w2 ⟨rfl, rfl⟩)))
    go_ret
    exact ⟨by rw [HE.out]; rfl, HB.out⟩
end Go.Proofs.YtbabcohidpcjjaaGreat

/-
  Contracts: marks' machine: declared, look: what stands at a <.
-/
namespace Go.Proofs.YtbabcohidpcjjaaGreat
open Go.RowKit Mem

set_option maxRecDepth 100000 in
set_option maxHeartbeats 4000000 in
theorem declared_any (m : MkM) (b : Nat) (s : ByteArray) (w : World) (hr : Row w b (machV m)) (hs : s.size ≤ 4294967280) :
    Calls Tryz.prog 91 #[.pointer (some ⟨b, 0, none⟩), .string s] w fun e w' => e = .returned (.int .i64 (declF m s.toList)) ∧ Below w.heap.size w w' := by
  have HR := Lib.hid hr
  clear hr
  have F1 := fun u => folds_any s ⟨#[60, 33, 45, 45]⟩ u hs
  have F2 := fun u => folds_any s ⟨#[60, 33, 100, 111, 99, 116, 121, 112, 101]⟩ u hs
  have P1 := fun u => hasp_any s ⟨#[60, 33, 91, 67, 68, 65, 84, 65, 91]⟩ u
  have P2 := fun u => hasp_any ⟨#[60, 33, 91, 67, 68, 65, 84, 65, 91]⟩ s u
  rw [show (⟨#[60, 33, 45, 45]⟩ : ByteArray).toList = comW from by rw [ByteArray.toList_eq]; rfl] at F1
  rw [show (⟨#[60, 33, 100, 111, 99, 116, 121, 112, 101]⟩ : ByteArray).toList = docW from by rw [ByteArray.toList_eq]; rfl] at F2
  rw [show (⟨#[60, 33, 91, 67, 68, 65, 84, 65, 91]⟩ : ByteArray).toList = cdataW from by rw [ByteArray.toList_eq]; rfl] at P1 P2
  obtain ⟨o, ho⟩ : ∃ o, o = declF m s.toList := ⟨_, rfl⟩
  rw [← ho]
  unfold declF at ho
  generalize foldsF s.toList comW = f1 at *
  generalize foldsF s.toList docW = f2 at *
  generalize cdataW.isPrefixOf s.toList = c at *
  generalize s.toList.isPrefixOf cdataW = d at *
  obtain ⟨a1, a2⟩ := f1
  obtain ⟨b1, b2⟩ := f2
  have hx : ∃ cd cl, cd = m.cdata ∧ cl = unlessF m.closed 8 := ⟨_, _, rfl, rfl⟩
  obtain ⟨cd, cl, hcd, hcl⟩ := hx
  have hu : ∀ u, Row u b (machV m) → Calls Tryz.prog 89 #[.pointer (some ⟨b, 0, none⟩), .int .i64 8] u _ := fun u hu => unless_any m b 8 u hu
  rw [← hcl] at hu ho
  rw [← hcd] at ho
  have HO := Lib.hid ho
  have HU := Lib.hid hu
  have G1 := Lib.hid F1
  have G2 := Lib.hid F2
  have G3 := Lib.hid P1
  have G4 := Lib.hid P2
  have HC : Hid (∀ u, Row u b (machV m) → u.cell? ⟨b, 5, none⟩ = some (.bool cd)) := fun u h => by rw [hcd]; exact h.cell rfl
  clear ho hu F1 F2 P1 P2 hcl hcd
  go_enter Tryz.func91, Tryz.ntmps91
  go_wp2_with (first
    | (go_at_call 108; go_must (first
        | (with_reducible refine (G1.out _).mono ?_; rintro e w1 ⟨rfl, hb⟩; have HB1 := Lib.hid hb; clear hb)
        | (with_reducible refine (G2.out _).mono ?_; rintro e w2 ⟨rfl, hb⟩; have HB2 := Lib.hid (belowCall HB1.out hb); have HR2 := Lib.hid (HR.out.below HB2.out HR.out.lt); have hc5 := HC.out _ HR2.out; clear hb)))
    | (go_at_call 62; go_must ((first | (with_reducible refine (G3.out _).mono ?_) | (with_reducible refine (G4.out _).mono ?_)); rintro e w3 ⟨rfl, rfl⟩))
    | (go_at_call 89; go_must (refine (HU.out _ HR2.out).mono ?_; rintro e w4 ⟨rfl, rfl⟩)))
  all_goals go_ret
  all_goals exact ⟨by rw [HO.out]; simp only [*]; simp, HB2.out⟩

theorem uiff (c d : UInt8) (n : Int) (h : (d.toNat : Int) = n) : (c = d) ↔ (((c.toNat : Int) == n) = true) := by
  rw [beq_iff_eq, ← h, ← UInt8.toNat_inj]; omega
theorem look_two (m : MkM) (c0 c1 : UInt8) (r : Str) (hm : m.mode = 0) : lookF m (c0 :: c1 :: r) = if letterB c1 = true then 2 else if ((c1.toNat : Int) == 63) = true then 8 else if ((c1.toNat : Int) == 33) = true then declF m (c0 :: c1 :: r) else if ((c1.toNat : Int) != 47) = true then 0
    else match r with
      | [] => unlessF m.closed 0
      | d :: _ => if letterB d = true then 3 else if ((d.toNat : Int) == 62) = true then 4 else 8 := by
  unfold lookF
  rw [if_neg (fun h => h hm)]
  simp only [uiff c1 63 63 rfl, uiff c1 33 33 rfl, ne_eq, uiff c1 47 47 rfl, bne, Bool.not_eq_true', Bool.not_eq_true]
  cases r with
  | nil => rfl
  | cons d r => simp only [uiff d 62 62 rfl]
set_option maxRecDepth 100000 in
set_option maxHeartbeats 4000000 in
theorem look_any (m : MkM) (b : Nat) (w : World) (hr : Row w b (machV m)) (hs : m.buf.length ≤ 4294967280) (hn : m.name.length ≤ 4294967280) :
    Calls Tryz.prog 68 #[.pointer (some ⟨b, 0, none⟩)] w fun e w' => e = .returned (.int .i64 (lookF m m.buf)) ∧ Below w.heap.size w w' := by
  obtain ⟨hc0, -, -, hc3, -⟩ := mach_row hr
  have HR := Lib.hid hr
  have HEn := Lib.hid (ends_any m b (strB m.buf) w hr (by rw [strB_size]; exact hs) hn)
  have HDe := Lib.hid (declared_any m b (strB m.buf) w hr (by rw [strB_size]; exact hs))
  have HUn := Lib.hid (unless_any m b 0 w hr)
  rw [toList_strB] at HEn HDe
  obtain ⟨S, hS⟩ : ∃ S, S = strB m.buf := ⟨_, rfl⟩
  have hz : S.size = m.buf.length := by rw [hS]; exact strB_size _
  have hSl : S.data.toList = m.buf := by rw [hS]; rfl
  rw [← hS] at hc0 HEn HDe
  obtain ⟨o, ho⟩ : ∃ o, o = lookF m m.buf := ⟨_, rfl⟩
  rw [← ho]
  clear hr hS
  by_cases hm : m.mode = 0
  · rw [hm] at hc3
    match hbuf : m.buf with
    | [] =>
      rw [hbuf] at hz ho
      have HO := Lib.hid (show o = unlessF m.closed 0 from by rw [ho]; unfold lookF; rw [if_neg (fun h => h hm)])
      have hlt : (S.size : Int) < 2 := by rw [hz]; decide
      clear ho hm hbuf hz HEn HDe hs hSl
      go_enter Tryz.func68, Tryz.ntmps68
      go_wp2_with (go_at_call 89; go_must (refine HUn.out.mono ?_; rintro e w4 ⟨rfl, rfl⟩))
      go_ret
      exact ⟨by rw [HO.out]; rfl, Below.refl _ _⟩
    | [c0] =>
      rw [hbuf] at hz ho
      have HO := Lib.hid (show o = unlessF m.closed 0 from by rw [ho]; unfold lookF; rw [if_neg (fun h => h hm)])
      have hlt : (S.size : Int) < 2 := by rw [hz]; simp
      clear ho hm hbuf hz HEn HDe hs hSl
      go_enter Tryz.func68, Tryz.ntmps68
      go_wp2_with (go_at_call 89; go_must (refine HUn.out.mono ?_; rintro e w4 ⟨rfl, rfl⟩))
      go_ret
      exact ⟨by rw [HO.out]; rfl, Below.refl _ _⟩
    | c0 :: c1 :: r =>
      rw [hbuf] at hz ho
      rw [look_two m c0 c1 r hm, ← hbuf] at ho
      have h1 : 1 < S.size := by rw [hz]; simp
      have hb1 : S[1]'h1 = c1 := by
        have := Lib.data_getElem? S 1 h1
        rw [hSl, hbuf] at this
        exact (Option.some.inj this).symm
      have HL1 := Lib.hid (fun u => letter_any c1 u)
      have hu1 := c1.toNat_lt
      cases r with
      | nil =>
        simp only [List.length_cons, List.length_nil] at hz
        simp only at ho
        have hlt : ¬ (S.size : Int) < 2 := by rw [hz]; decide
        have hlt3 : (S.size : Int) < 3 := by rw [hz]; decide
        generalize declF m m.buf = dc at *
        generalize unlessF m.closed 0 = un at *
        generalize letterB c1 = l1 at *
        have HO := Lib.hid ho
        clear ho hbuf hSl HEn hm hs hz
        go_enter Tryz.func68, Tryz.ntmps68
        go_wp2_with (first
          | (go_at_call 90; go_must (refine (HL1.out _).mono ?_; rintro e w4 ⟨rfl, rfl⟩))
          | (go_at_call 91; go_must (refine HDe.out.mono ?_; rintro e w1 ⟨rfl, hb⟩; have HB := Lib.hid hb; clear hb))
          | (go_at_call 89; go_must (refine HUn.out.mono ?_; rintro e w4 ⟨rfl, rfl⟩)))
        all_goals go_ret
        all_goals exact ⟨by rw [HO.out]; simp only [*]; simp, by first | exact HB.out | exact Below.refl _ _⟩
      | cons d r =>
        simp only [List.length_cons] at hz
        simp only at ho
        have h2 : 2 < S.size := by omega
        have hb2 : S[2]'h2 = d := by
          have := Lib.data_getElem? S 2 h2
          rw [hSl, hbuf] at this
          exact (Option.some.inj this).symm
        have HL2 := Lib.hid (fun u => letter_any d u)
        have hu2 := d.toNat_lt
        have hlt : ¬ (S.size : Int) < 2 := by omega
        have hlt3 : ¬ (S.size : Int) < 3 := by omega
        generalize declF m m.buf = dc at *
        generalize letterB c1 = l1 at *
        generalize letterB d = l2 at *
        have HO := Lib.hid ho
        clear ho hbuf hSl HEn hm hs hz HUn
        go_enter Tryz.func68, Tryz.ntmps68
        go_wp2_with (first
          | (go_at_call 90; go_must ((first | (with_reducible refine (HL1.out _).mono ?_) | (with_reducible refine (HL2.out _).mono ?_)); rintro e w4 ⟨rfl, rfl⟩))
          | (go_at_call 91; go_must (refine HDe.out.mono ?_; rintro e w1 ⟨rfl, hb⟩; have HB := Lib.hid hb; clear hb)))
        all_goals go_ret
        all_goals exact ⟨by rw [HO.out]; simp only [*]; simp, by first | exact HB.out | exact Below.refl _ _⟩
  · have hm' : (m.mode == 0) = false := beq_eq_false_iff_ne.2 hm
    have HO := Lib.hid (show o = endsF m m.buf from by rw [ho]; unfold lookF; rw [if_pos hm])
    clear ho hm HDe HUn hz hs hSl
    go_enter Tryz.func68, Tryz.ntmps68
    go_wp2_with (go_at_call 88; go_must (refine HEn.out.mono ?_; rintro e w1 ⟨rfl, hb⟩; have HB := Lib.hid hb; clear hb))
    go_ret
    exact ⟨by rw [HO.out]; rfl, HB.out⟩
end Go.Proofs.YtbabcohidpcjjaaGreat

/-
  Contracts: marks' machine: comment, passes: what each tells and makes of the machine.
-/
namespace Go.Proofs.YtbabcohidpcjjaaGreat
open Go.RowKit Mem

theorem keeps_then' {F : Nat → Prop} {w a u : World} (h : Keeps F w a) (hq : Below a.heap.size a u) : Keeps F w u := h.trans (Keeps.ofBelow hq)
theorem zero_below {a u : World} {R : Nat} {o : Obj} (h : a.heap[R]? = some o) (hq : Below a.heap.size a u) (hR : R < a.heap.size) : u.heap[R]? = some o := (hq.block R hR).trans h
theorem max_below {a u : World} {x : Int} (h : maxAt a x) (hq : Below a.heap.size a u) : maxAt u x := cell_later hq h
theorem only_zero {a u : World} {R b : Nat} {o : Obj} (h : a.heap[R]? = some o) (hk : Keeps (Only b) a u) (hR : R < a.heap.size) (hne : R ≠ b) : u.heap[R]? = some o := (hk.block R hR hne).trans h

theorem comLater_eq (m : MkM) : comLater m = (if 0 ≤ Lib.index m.buf comEnd ∧ (Lib.index m.buf comEnd2 < 0 ∨ Lib.index m.buf comEnd < Lib.index m.buf comEnd2) then doneF m ((Lib.index m.buf comEnd).toNat + 3)
  else if 0 ≤ Lib.index m.buf comEnd2 then doneF m ((Lib.index m.buf comEnd2).toNat + 4)
  else if m.closed then doneF m m.buf.length
  else (noM, false, true, { m with buf := m.buf.drop (m.buf.length - 3) })) := rfl

set_option maxRecDepth 100000 in
set_option maxHeartbeats 4000000 in
theorem comment_any (m : MkM) (b : Nat) (x : Int) (w : World) (hr : Row w b (machV m)) (hm : maxAt w x) (hl : m.buf.length ≤ 4294967280) :
    Calls Tryz.prog 49 #[.pointer (some ⟨b, 0, none⟩)] w fun e w' => e = .returned (outV (comF m)) ∧ Row w' b (machV (comF m).2.2.2) ∧ Keeps (Only b) w w' := by
  have hbw := hr.lt
  obtain ⟨o, ho⟩ : ∃ o, o = comF m := ⟨_, rfl⟩
  rw [← ho]
  unfold comF at ho
  by_cases hfr : m.fresh = true
  · rw [if_pos hfr] at ho
    obtain ⟨hc0, -, hc2, -, -, -, -, -, hc8, -⟩ := mach_row hr
    have hf8 := (mach_free hr).2.2.2.2.2.2.2.2.1
    rw [hfr] at hc8
    clear hfr
    have H1 := Lib.hid (fun u => hasp_any (strB m.buf) ⟨#[62]⟩ u)
    have H2 := Lib.hid (fun u => hasp_any (strB m.buf) ⟨#[45, 62]⟩ u)
    rw [toList_strB, show (⟨#[62]⟩ : ByteArray).toList = [62] from by rw [ByteArray.toList_eq]] at H1
    rw [toList_strB, show (⟨#[45, 62]⟩ : ByteArray).toList = [45, 62] from by rw [ByteArray.toList_eq]] at H2
    have hne : w.heap.size ≠ b := by omega
    have HR0 := Lib.hid hr
    by_cases p1 : ([62] : Str).isPrefixOf m.buf = true
    · rw [if_pos p1] at ho
      rw [p1] at H1
      have hlen := (List.isPrefixOf_iff_prefix.1 p1).length_le
      obtain ⟨wa, hwa⟩ : ∃ wa, wa = w.alloc (.cells zeroMark 46) := ⟨_, rfl⟩
      have HR := Lib.hid (show Row wa b (machV m) from hwa ▸ hr.kept (heap_alloc_old w (.cells zeroMark 46) hbw))
      have HZ := Lib.hid (show wa.heap[w.heap.size]? = some (.cells zeroMark 46 (0, 0)) from hwa ▸ heap_alloc_new _ _)
      have HK := Lib.hid (show Keeps (Only b) w wa from hwa ▸ (Keeps.refl (Only b) w).alloc _)
      have hza : w.heap.size < wa.heap.size := by rw [hwa]; simp
      have HWA : Hid (wa = w.alloc (.cells #[.int .i64 0, .string ⟨#[]⟩, .slice none 0 0, .bool false, .string ⟨#[]⟩] 46)) := hwa
      clear hwa
      have HRq := HR
      have HZq := HZ
      have HKq := HK
      have hzq := hza
      have HO := Lib.hid ho
      clear hr hm ho p1 HR HZ HK hc2 hf8
      go_enter Tryz.func49, Tryz.ntmps49
      go_wp2_with (go_at_call 62; go_must (refine (H1.out _).mono ?_; rintro e w1 ⟨rfl, rfl⟩))
      rw [← HWA.out]
      refine (done_any m b 1 _ HRq.out hlen (by omega)).mono ?_
      rintro e W1 ⟨rfl, r1, k1⟩
      -- a call of done has answered: W1, r1, k1
      have HZ1 := Lib.hid (only_zero HZq.out k1 hzq hne)
      have HK1 := Lib.hid (HKq.out.trans k1)
      have HR1 := Lib.hid r1
      obtain ⟨⟨q0, q1, q2, q3, q4⟩, f0, f1, f2, f3, f4⟩ := res_cells HZ1.out
      clear k1 r1
      dsimp only [outV, markV]
      go_wp2_with fail
      refine bodyPost_ret (results_mark rfl _ _ w.heap.size _ _ _ _ rfl (put5_at HZ1.out _ _ _ _ _) Tryz.underlying46 rfl mark_info) rfl ?_
      rw [HO.out]
      exact ⟨rfl, put5_row HR1.out (fun e => hne e.symm) _ _ _ _ _, put5_keeps HK1.out (Nat.le_refl _) _ _ _ _ _⟩
    · rw [if_neg p1] at ho
      have p1' : ([62] : Str).isPrefixOf m.buf = false := Bool.eq_false_iff.2 p1
      rw [p1'] at H1
      clear p1 p1'
      by_cases p2 : ([45, 62] : Str).isPrefixOf m.buf = true
      · rw [if_pos p2] at ho
        rw [p2] at H2
        have hlen := (List.isPrefixOf_iff_prefix.1 p2).length_le
        obtain ⟨wa, hwa⟩ : ∃ wa, wa = w.alloc (.cells zeroMark 46) := ⟨_, rfl⟩
        have HR := Lib.hid (show Row wa b (machV m) from hwa ▸ hr.kept (heap_alloc_old w (.cells zeroMark 46) hbw))
        have HZ := Lib.hid (show wa.heap[w.heap.size]? = some (.cells zeroMark 46 (0, 0)) from hwa ▸ heap_alloc_new _ _)
        have HK := Lib.hid (show Keeps (Only b) w wa from hwa ▸ (Keeps.refl (Only b) w).alloc _)
        have hza : w.heap.size < wa.heap.size := by rw [hwa]; simp
        have HWA : Hid (wa = w.alloc (.cells #[.int .i64 0, .string ⟨#[]⟩, .slice none 0 0, .bool false, .string ⟨#[]⟩] 46)) := hwa
        clear hwa
        have HRq := HR
        have HZq := HZ
        have HKq := HK
        have hzq := hza
        have HO := Lib.hid ho
        clear hr hm ho p2 HR HZ HK hc2 hf8
        go_enter Tryz.func49, Tryz.ntmps49
        go_wp2_with (go_at_call 62; go_must ((first | (with_reducible refine (H1.out _).mono ?_) | (with_reducible refine (H2.out _).mono ?_)); rintro e w1 ⟨rfl, rfl⟩))
        rw [← HWA.out]
        refine (done_any m b 2 _ HRq.out hlen (by omega)).mono ?_
        rintro e W1 ⟨rfl, r1, k1⟩
        -- a call of done has answered: W1, r1, k1
        have HZ1 := Lib.hid (only_zero HZq.out k1 hzq hne)
        have HK1 := Lib.hid (HKq.out.trans k1)
        have HR1 := Lib.hid r1
        obtain ⟨⟨q0, q1, q2, q3, q4⟩, f0, f1, f2, f3, f4⟩ := res_cells HZ1.out
        clear k1 r1
        dsimp only [outV, markV]
        go_wp2_with fail
        refine bodyPost_ret (results_mark rfl _ _ w.heap.size _ _ _ _ rfl (put5_at HZ1.out _ _ _ _ _) Tryz.underlying46 rfl mark_info) rfl ?_
        rw [HO.out]
        exact ⟨rfl, put5_row HR1.out (fun e => hne e.symm) _ _ _ _ _, put5_keeps HK1.out (Nat.le_refl _) _ _ _ _ _⟩
      · rw [if_neg p2] at ho
        have p2' : ([45, 62] : Str).isPrefixOf m.buf = false := Bool.eq_false_iff.2 p2
        rw [p2'] at H2
        clear p2 p2'
        by_cases p3 : m.closed = false ∧ (m.buf = [] ∨ m.buf = [45])
        · rw [if_pos p3] at ho
          have HO := Lib.hid ho
          rw [p3.1] at hc2
          have hp4 : ((strB m.buf).toList.isEmpty = true) ∨ ((strB m.buf).toList.isEmpty = false ∧ (((strB m.buf).toList == ([45] : Str)) = true)) := by
            rw [toList_strB]
            rcases p3.2 with h | h <;> rw [h]
            · exact .inl rfl
            · exact .inr ⟨rfl, rfl⟩
          clear ho hr hm p3
          rcases hp4 with hp4 | ⟨hp4, hp5⟩
          all_goals
            go_enter Tryz.func49, Tryz.ntmps49
            go_wp2_with (go_at_call 62; go_must ((first | (with_reducible refine (H1.out _).mono ?_) | (with_reducible refine (H2.out _).mono ?_)); rintro e w1 ⟨rfl, rfl⟩))
            refine bodyPost_ret (results_mark rfl _ _ w.heap.size _ _ _ _ rfl (alloc_at rfl) Tryz.underlying46 rfl mark_info) rfl ?_
            rw [HO.out]
            exact ⟨ret_eq rfl, HR0.out.kept (heap_alloc_old _ _ hbw), (Keeps.refl (Only b) w).alloc _⟩
        · rw [if_neg p3] at ho
          have hp4 : m.closed = true ∨ (m.closed = false ∧ (strB m.buf).toList.isEmpty = false ∧ (((strB m.buf).toList == ([45] : Str)) = false)) := by
            cases hcl : m.closed
            · right
              refine ⟨rfl, ?_, ?_⟩
              · rw [toList_strB]
                cases h : m.buf with
                | nil => exact absurd ⟨hcl, .inl h⟩ p3
                | cons _ _ => rfl
              · rw [toList_strB, beq_eq_false_iff_ne]
                exact fun h => p3 ⟨hcl, .inr h⟩
            · exact .inl rfl
          clear p3
          have HRa : Hid (Row ((w.setCell ⟨b, 8, none⟩ (.bool false)).alloc (.cells #[.int .i64 0, .string ⟨#[]⟩, .slice none 0 0, .bool false, .string ⟨#[]⟩] 46)) b (machV { m with fresh := false })) :=
            (HR0.out.set 8 (.bool false)).kept (heap_alloc_old _ _ (by simp; exact hbw))
          have HZa : Hid (((w.setCell ⟨b, 8, none⟩ (.bool false)).alloc (.cells #[.int .i64 0, .string ⟨#[]⟩, .slice none 0 0, .bool false, .string ⟨#[]⟩] 46)).heap[w.heap.size]? = some (.cells zeroMark 46 (0, 0))) := alloc_at (by simp)
          have HKa : Hid (Keeps (Only b) w ((w.setCell ⟨b, 8, none⟩ (.bool false)).alloc (.cells #[.int .i64 0, .string ⟨#[]⟩, .slice none 0 0, .bool false, .string ⟨#[]⟩] 46))) := (keep_set (Keeps.refl (Only b) w) _).alloc _
          have HMa := Lib.hid (max_keeps hm hr HKa.out)
          have hza : w.heap.size < ((w.setCell ⟨b, 8, none⟩ (.bool false)).alloc (.cells #[.int .i64 0, .string ⟨#[]⟩, .slice none 0 0, .bool false, .string ⟨#[]⟩] 46)).heap.size := by simp
          clear hr hm
          rcases hp4 with hcl | ⟨hcl, hp5, hp6⟩
          all_goals
            rw [hcl] at hc2
            clear hcl
            go_enter Tryz.func49, Tryz.ntmps49
            go_wp2_with (go_at_call 62; go_must ((first | (with_reducible refine (H1.out _).mono ?_) | (with_reducible refine (H2.out _).mono ?_)); rintro e w1 ⟨rfl, rfl⟩))
            clear hc0 hc2 hc8 hf8 H1 H2
            try clear hp5 hp6
            generalize ((w.setCell ⟨b, 8, none⟩ (.bool false)).alloc (.cells #[.int .i64 0, .string ⟨#[]⟩, .slice none 0 0, .bool false, .string ⟨#[]⟩] 46)) = wa at *
            have hl1 : ({ m with fresh := false } : MkM).buf.length ≤ 4294967280 := hl
            generalize ({ m with fresh := false } : MkM) = m1 at *
            clear hl
            -- world wa: HRa HZa HKa HMa hza; machine m1, ho : o = comLater m1
            have hne : w.heap.size ≠ b := by omega
            have hz : (strB m1.buf).size = m1.buf.length := strB_size _
            have hA := fun u hu => Index_any (strB m1.buf) ⟨#[45, 45, 62]⟩ x u (by rw [hz]; omega) hu
            rw [strB_list, show (⟨#[45, 45, 62]⟩ : ByteArray).data.toList = comEnd from rfl] at hA
            have hB := fun u hu => Index_any (strB m1.buf) ⟨#[45, 45, 33, 62]⟩ x u (by rw [hz]; omega) hu
            rw [strB_list, show (⟨#[45, 45, 33, 62]⟩ : ByteArray).data.toList = comEnd2 from rfl] at hB
            have hia : (∃ i : Nat, Lib.index m1.buf comEnd = i ∧ i + 3 ≤ m1.buf.length) ∨ Lib.index m1.buf comEnd = -1 := by
              by_cases h0 : 0 ≤ Lib.index m1.buf comEnd
              · obtain ⟨i, h1, h2, -, -⟩ := index_some h0 (by decide); exact .inl ⟨i, h1, h2⟩
              · exact .inr (index_no h0)
            have hib : (∃ i : Nat, Lib.index m1.buf comEnd2 = i ∧ i + 4 ≤ m1.buf.length) ∨ Lib.index m1.buf comEnd2 = -1 := by
              by_cases h0 : 0 ≤ Lib.index m1.buf comEnd2
              · obtain ⟨i, h1, h2, -, -⟩ := index_some h0 (by decide); exact .inl ⟨i, h1, h2⟩
              · exact .inr (index_no h0)
            have hcl := comLater_eq m1
            obtain ⟨ia, hia'⟩ : ∃ i, i = Lib.index m1.buf comEnd := ⟨_, rfl⟩
            obtain ⟨ib, hib'⟩ : ∃ i, i = Lib.index m1.buf comEnd2 := ⟨_, rfl⟩
            rw [← hia'] at hA hcl hia
            rw [← hib'] at hB hcl hib
            have HA := Lib.hid hA
            have HB := Lib.hid hB
            clear hA hB hia' hib'
            obtain ⟨hc0, -⟩ := mach_row HRa.out
            have hM0 : wa.cell? ⟨0, 0, none⟩ = some (.int .i64 x) := HMa.out
            refine wp_region_calm (by kernel_rfl) (by kernel_rfl) ?_
            repeat
              with_reducible refine wpQuiet_step (fun K hK => ?_)
              first
                | (with_reducible apply calm_skip
                   · rfl
                   simp only [Act.put, List.setIfInBounds_toArray, List.set_cons_zero, List.set_cons_succ]
                   refine hK _ ?_
                   clear hK K)
                | (with_reducible apply calm_run
                   · rfl
                   · intro wq hC
                     have zhc0 := cell_later hC.out hc0
                     have zhM0 := cell_later hC.out hM0
                     unfold Oper.quietAt
                     go_simp
                     first | done | (go_at_call 63; go_must (first | (with_reducible refine (HA.out _ zhM0).mono ?_) | (with_reducible refine (HB.out _ zhM0).mono ?_)); rintro e wx ⟨rfl, rfl⟩; exact ⟨rfl, hC⟩) | with_reducible rfl | rfl
                   simp only [Act.put, List.setIfInBounds_toArray, List.set_cons_zero, List.set_cons_succ]
                   refine hK _ ?_
                   clear hK K)
            with_reducible refine wpQuiet_nil ?_
            intro wq HQ
            have zhc0 := cell_later HQ.out hc0
            have zhM0 := cell_later HQ.out hM0
            have HRq := Lib.hid (HRa.out.below HQ.out HRa.out.lt)
            have HZq := Lib.hid (zero_below HZa.out HQ.out hza)
            have HKq := Lib.hid (keeps_then' HKa.out HQ.out)
            have hzq : w.heap.size < wq.heap.size := Nat.lt_of_lt_of_le hza HQ.out.size
            clear hc0 hM0 zhc0 zhM0
            obtain ⟨hc0, -, hc2, -⟩ := mach_row HRq.out
            have hf0 := (mach_free HRq.out).1
            clear HA HB HQ HRa HZa HKa HMa
            by_cases c1 : 0 ≤ ia ∧ (ib < 0 ∨ ia < ib)
            · rw [if_pos c1] at hcl
              have HO := Lib.hid (ho.trans hcl)
              obtain ⟨i, rfl, hil⟩ := hia.resolve_right (by omega)
              clear hcl ho hia hc0 hc2 hf0
              rcases c1.2 with c2 | c2
              all_goals
                obtain ⟨c1, -⟩ := c1
                go_wp2_with fail
                refine (done_any m1 b (i + 3) _ HRq.out hil (by omega)).mono ?_
                rintro e W1 ⟨rfl, r1, k1⟩
                -- a call of done has answered: W1, r1, k1
                have HZ1 := Lib.hid (only_zero HZq.out k1 hzq hne)
                have HK1 := Lib.hid (HKq.out.trans k1)
                have HR1 := Lib.hid r1
                obtain ⟨⟨q0, q1, q2, q3, q4⟩, f0, f1, f2, f3, f4⟩ := res_cells HZ1.out
                clear k1 r1
                dsimp only [outV, markV]
                go_wp2_with fail
                refine bodyPost_ret (results_mark rfl _ _ w.heap.size _ _ _ _ rfl (put5_at HZ1.out _ _ _ _ _) Tryz.underlying46 rfl mark_info) rfl ?_
                rw [HO.out]
                exact ⟨rfl, put5_row HR1.out (fun e => hne e.symm) _ _ _ _ _, put5_keeps HK1.out (Nat.le_refl _) _ _ _ _ _⟩
            · rw [if_neg c1] at hcl
              by_cases c2 : 0 ≤ ib
              · rw [if_pos c2] at hcl
                have HO := Lib.hid (ho.trans hcl)
                obtain ⟨i, rfl, hil⟩ := hib.resolve_right (by omega)
                clear hcl ho hib hc0 hc2 hf0
                by_cases c3 : 0 ≤ ia
                · have c4 : ¬ ia < (i : Int) := fun h => c1 ⟨c3, .inr h⟩
                  have c5 : ¬ (i : Int) < 0 := by omega
                  clear c1 hia
                  go_wp2_with fail
                  refine (done_any m1 b (i + 4) _ HRq.out hil (by omega)).mono ?_
                  rintro e W1 ⟨rfl, r1, k1⟩
                  -- a call of done has answered: W1, r1, k1
                  have HZ1 := Lib.hid (only_zero HZq.out k1 hzq hne)
                  have HK1 := Lib.hid (HKq.out.trans k1)
                  have HR1 := Lib.hid r1
                  obtain ⟨⟨q0, q1, q2, q3, q4⟩, f0, f1, f2, f3, f4⟩ := res_cells HZ1.out
                  clear k1 r1
                  dsimp only [outV, markV]
                  go_wp2_with fail
                  refine bodyPost_ret (results_mark rfl _ _ w.heap.size _ _ _ _ rfl (put5_at HZ1.out _ _ _ _ _) Tryz.underlying46 rfl mark_info) rfl ?_
                  rw [HO.out]
                  exact ⟨rfl, put5_row HR1.out (fun e => hne e.symm) _ _ _ _ _, put5_keeps HK1.out (Nat.le_refl _) _ _ _ _ _⟩
                · clear c1 hia
                  go_wp2_with fail
                  refine (done_any m1 b (i + 4) _ HRq.out hil (by omega)).mono ?_
                  rintro e W1 ⟨rfl, r1, k1⟩
                  -- a call of done has answered: W1, r1, k1
                  have HZ1 := Lib.hid (only_zero HZq.out k1 hzq hne)
                  have HK1 := Lib.hid (HKq.out.trans k1)
                  have HR1 := Lib.hid r1
                  obtain ⟨⟨q0, q1, q2, q3, q4⟩, f0, f1, f2, f3, f4⟩ := res_cells HZ1.out
                  clear k1 r1
                  dsimp only [outV, markV]
                  go_wp2_with fail
                  refine bodyPost_ret (results_mark rfl _ _ w.heap.size _ _ _ _ rfl (put5_at HZ1.out _ _ _ _ _) Tryz.underlying46 rfl mark_info) rfl ?_
                  rw [HO.out]
                  exact ⟨rfl, put5_row HR1.out (fun e => hne e.symm) _ _ _ _ _, put5_keeps HK1.out (Nat.le_refl _) _ _ _ _ _⟩
              · rw [if_neg c2] at hcl
                have c6 : ib < 0 := by omega
                have c7 : ¬ 0 ≤ ia := fun h => c1 ⟨h, .inl c6⟩
                clear c1 hia hib
                by_cases c3 : m1.closed = true
                · rw [if_pos c3] at hcl
                  have HO := Lib.hid (ho.trans hcl)
                  rw [c3] at hc2
                  clear hcl ho c3 hf0
                  go_wp2_with fail
                  refine (done_any m1 b m1.buf.length _ HRq.out (Nat.le_refl _) (by omega)).mono ?_
                  rintro e W1 ⟨rfl, r1, k1⟩
                  -- a call of done has answered: W1, r1, k1
                  have HZ1 := Lib.hid (only_zero HZq.out k1 hzq hne)
                  have HK1 := Lib.hid (HKq.out.trans k1)
                  have HR1 := Lib.hid r1
                  obtain ⟨⟨q0, q1, q2, q3, q4⟩, f0, f1, f2, f3, f4⟩ := res_cells HZ1.out
                  clear k1 r1
                  dsimp only [outV, markV]
                  go_wp2_with fail
                  refine bodyPost_ret (results_mark rfl _ _ w.heap.size _ _ _ _ rfl (put5_at HZ1.out _ _ _ _ _) Tryz.underlying46 rfl mark_info) rfl ?_
                  rw [HO.out]
                  exact ⟨rfl, put5_row HR1.out (fun e => hne e.symm) _ _ _ _ _, put5_keeps HK1.out (Nat.le_refl _) _ _ _ _ _⟩
                · rw [if_neg c3] at hcl
                  have c3' : m1.closed = false := by simpa using c3
                  have HO := Lib.hid (ho.trans hcl)
                  rw [c3'] at hc2
                  clear hcl ho c3 c3'
                  have e2 := strB_ext m1.buf (m1.buf.length - 3)
                  have emax : (max 0 ((m1.buf.length : Int) - 3)).toNat = m1.buf.length - 3 := by omega
                  go_wp2_with fail
                  obtain ⟨⟨q0, q1, q2, q3, q4⟩, f0, f1, f2, f3, f4⟩ := res_cells HZq.out
                  have hg := Lib.hid (at_drew (put5_at (res_set (j := 0) (v := .string (strB (m1.buf.drop (m1.buf.length - 3)))) HZq.out hne) (.int .i64 0) (.string ⟨#[]⟩) (.slice none 0 0) (.bool false) (.string ⟨#[]⟩)))
                  go_region
                  go_wp2_with fail
                  try rw [emax, e2]
                  refine bodyPost_ret (results_mark rfl _ _ w.heap.size _ _ _ _ rfl hg.out Tryz.underlying46 rfl mark_info) rfl ?_
                  rw [HO.out]
                  refine ⟨?_, ?_, ?_⟩
                  · exact ret_eq rfl
                  · exact row_drew (put5_row (HRq.out.set 0 _) (fun e => hne e.symm) _ _ _ _ _)
                  · exact (put5_keeps (keep_set HKq.out _) (Nat.le_refl _) _ _ _ _ _).drew
  · rw [if_neg hfr] at ho
    have hfr' : m.fresh = false := by simpa using hfr
    have hc8 := (mach_row hr).2.2.2.2.2.2.2.2.1
    rw [hfr'] at hc8
    clear hfr hfr'
    obtain ⟨wa, hwa⟩ : ∃ wa, wa = w.alloc (.cells zeroMark 46) := ⟨_, rfl⟩
    have HR := Lib.hid (show Row wa b (machV m) from hwa ▸ hr.kept (heap_alloc_old w (.cells zeroMark 46) hbw))
    have HZ := Lib.hid (show wa.heap[w.heap.size]? = some (.cells zeroMark 46 (0, 0)) from hwa ▸ heap_alloc_new _ _)
    have HK := Lib.hid (show Keeps (Only b) w wa from hwa ▸ (Keeps.refl (Only b) w).alloc _)
    have hza : w.heap.size < wa.heap.size := by rw [hwa]; simp
    have HWA : Hid (wa = w.alloc (.cells #[.int .i64 0, .string ⟨#[]⟩, .slice none 0 0, .bool false, .string ⟨#[]⟩] 46)) := hwa
    clear hwa
    have HMa := Lib.hid (max_keeps hm hr HK.out)
    have HRa := HR
    have HZa := HZ
    have HKa := HK
    clear HR HZ HK hr hm
    go_enter Tryz.func49, Tryz.ntmps49
    go_wp2_with fail
    rw [← HWA.out]
    clear HWA hc8
    obtain ⟨m1, hm1⟩ : ∃ m1, m1 = m := ⟨_, rfl⟩
    rw [← hm1] at ho HRa hl
    clear hm1
    have hl1 := hl
    clear hl
    -- world wa: HRa HZa HKa HMa hza; machine m1, ho : o = comLater m1
    have hne : w.heap.size ≠ b := by omega
    have hz : (strB m1.buf).size = m1.buf.length := strB_size _
    have hA := fun u hu => Index_any (strB m1.buf) ⟨#[45, 45, 62]⟩ x u (by rw [hz]; omega) hu
    rw [strB_list, show (⟨#[45, 45, 62]⟩ : ByteArray).data.toList = comEnd from rfl] at hA
    have hB := fun u hu => Index_any (strB m1.buf) ⟨#[45, 45, 33, 62]⟩ x u (by rw [hz]; omega) hu
    rw [strB_list, show (⟨#[45, 45, 33, 62]⟩ : ByteArray).data.toList = comEnd2 from rfl] at hB
    have hia : (∃ i : Nat, Lib.index m1.buf comEnd = i ∧ i + 3 ≤ m1.buf.length) ∨ Lib.index m1.buf comEnd = -1 := by
      by_cases h0 : 0 ≤ Lib.index m1.buf comEnd
      · obtain ⟨i, h1, h2, -, -⟩ := index_some h0 (by decide); exact .inl ⟨i, h1, h2⟩
      · exact .inr (index_no h0)
    have hib : (∃ i : Nat, Lib.index m1.buf comEnd2 = i ∧ i + 4 ≤ m1.buf.length) ∨ Lib.index m1.buf comEnd2 = -1 := by
      by_cases h0 : 0 ≤ Lib.index m1.buf comEnd2
      · obtain ⟨i, h1, h2, -, -⟩ := index_some h0 (by decide); exact .inl ⟨i, h1, h2⟩
      · exact .inr (index_no h0)
    have hcl := comLater_eq m1
    obtain ⟨ia, hia'⟩ : ∃ i, i = Lib.index m1.buf comEnd := ⟨_, rfl⟩
    obtain ⟨ib, hib'⟩ : ∃ i, i = Lib.index m1.buf comEnd2 := ⟨_, rfl⟩
    rw [← hia'] at hA hcl hia
    rw [← hib'] at hB hcl hib
    have HA := Lib.hid hA
    have HB := Lib.hid hB
    clear hA hB hia' hib'
    obtain ⟨hc0, -⟩ := mach_row HRa.out
    have hM0 : wa.cell? ⟨0, 0, none⟩ = some (.int .i64 x) := HMa.out
    refine wp_region_calm (by kernel_rfl) (by kernel_rfl) ?_
    repeat
      with_reducible refine wpQuiet_step (fun K hK => ?_)
      first
        | (with_reducible apply calm_skip
           · rfl
           simp only [Act.put, List.setIfInBounds_toArray, List.set_cons_zero, List.set_cons_succ]
           refine hK _ ?_
           clear hK K)
        | (with_reducible apply calm_run
           · rfl
           · intro wq hC
             have zhc0 := cell_later hC.out hc0
             have zhM0 := cell_later hC.out hM0
             unfold Oper.quietAt
             go_simp
             first | done | (go_at_call 63; go_must (first | (with_reducible refine (HA.out _ zhM0).mono ?_) | (with_reducible refine (HB.out _ zhM0).mono ?_)); rintro e wx ⟨rfl, rfl⟩; exact ⟨rfl, hC⟩) | with_reducible rfl | rfl
           simp only [Act.put, List.setIfInBounds_toArray, List.set_cons_zero, List.set_cons_succ]
           refine hK _ ?_
           clear hK K)
    with_reducible refine wpQuiet_nil ?_
    intro wq HQ
    have zhc0 := cell_later HQ.out hc0
    have zhM0 := cell_later HQ.out hM0
    have HRq := Lib.hid (HRa.out.below HQ.out HRa.out.lt)
    have HZq := Lib.hid (zero_below HZa.out HQ.out hza)
    have HKq := Lib.hid (keeps_then' HKa.out HQ.out)
    have hzq : w.heap.size < wq.heap.size := Nat.lt_of_lt_of_le hza HQ.out.size
    clear hc0 hM0 zhc0 zhM0
    obtain ⟨hc0, -, hc2, -⟩ := mach_row HRq.out
    have hf0 := (mach_free HRq.out).1
    clear HA HB HQ HRa HZa HKa HMa
    by_cases c1 : 0 ≤ ia ∧ (ib < 0 ∨ ia < ib)
    · rw [if_pos c1] at hcl
      have HO := Lib.hid (ho.trans hcl)
      obtain ⟨i, rfl, hil⟩ := hia.resolve_right (by omega)
      clear hcl ho hia hc0 hc2 hf0
      rcases c1.2 with c2 | c2
      all_goals
        obtain ⟨c1, -⟩ := c1
        go_wp2_with fail
        refine (done_any m1 b (i + 3) _ HRq.out hil (by omega)).mono ?_
        rintro e W1 ⟨rfl, r1, k1⟩
        -- a call of done has answered: W1, r1, k1
        have HZ1 := Lib.hid (only_zero HZq.out k1 hzq hne)
        have HK1 := Lib.hid (HKq.out.trans k1)
        have HR1 := Lib.hid r1
        obtain ⟨⟨q0, q1, q2, q3, q4⟩, f0, f1, f2, f3, f4⟩ := res_cells HZ1.out
        clear k1 r1
        dsimp only [outV, markV]
        go_wp2_with fail
        refine bodyPost_ret (results_mark rfl _ _ w.heap.size _ _ _ _ rfl (put5_at HZ1.out _ _ _ _ _) Tryz.underlying46 rfl mark_info) rfl ?_
        rw [HO.out]
        exact ⟨rfl, put5_row HR1.out (fun e => hne e.symm) _ _ _ _ _, put5_keeps HK1.out (Nat.le_refl _) _ _ _ _ _⟩
    · rw [if_neg c1] at hcl
      by_cases c2 : 0 ≤ ib
      · rw [if_pos c2] at hcl
        have HO := Lib.hid (ho.trans hcl)
        obtain ⟨i, rfl, hil⟩ := hib.resolve_right (by omega)
        clear hcl ho hib hc0 hc2 hf0
        by_cases c3 : 0 ≤ ia
        · have c4 : ¬ ia < (i : Int) := fun h => c1 ⟨c3, .inr h⟩
          have c5 : ¬ (i : Int) < 0 := by omega
          clear c1 hia
          go_wp2_with fail
          refine (done_any m1 b (i + 4) _ HRq.out hil (by omega)).mono ?_
          rintro e W1 ⟨rfl, r1, k1⟩
          -- a call of done has answered: W1, r1, k1
          have HZ1 := Lib.hid (only_zero HZq.out k1 hzq hne)
          have HK1 := Lib.hid (HKq.out.trans k1)
          have HR1 := Lib.hid r1
          obtain ⟨⟨q0, q1, q2, q3, q4⟩, f0, f1, f2, f3, f4⟩ := res_cells HZ1.out
          clear k1 r1
          dsimp only [outV, markV]
          go_wp2_with fail
          refine bodyPost_ret (results_mark rfl _ _ w.heap.size _ _ _ _ rfl (put5_at HZ1.out _ _ _ _ _) Tryz.underlying46 rfl mark_info) rfl ?_
          rw [HO.out]
          exact ⟨rfl, put5_row HR1.out (fun e => hne e.symm) _ _ _ _ _, put5_keeps HK1.out (Nat.le_refl _) _ _ _ _ _⟩
        · clear c1 hia
          go_wp2_with fail
          refine (done_any m1 b (i + 4) _ HRq.out hil (by omega)).mono ?_
          rintro e W1 ⟨rfl, r1, k1⟩
          -- a call of done has answered: W1, r1, k1
          have HZ1 := Lib.hid (only_zero HZq.out k1 hzq hne)
          have HK1 := Lib.hid (HKq.out.trans k1)
          have HR1 := Lib.hid r1
          obtain ⟨⟨q0, q1, q2, q3, q4⟩, f0, f1, f2, f3, f4⟩ := res_cells HZ1.out
          clear k1 r1
          dsimp only [outV, markV]
          go_wp2_with fail
          refine bodyPost_ret (results_mark rfl _ _ w.heap.size _ _ _ _ rfl (put5_at HZ1.out _ _ _ _ _) Tryz.underlying46 rfl mark_info) rfl ?_
          rw [HO.out]
          exact ⟨rfl, put5_row HR1.out (fun e => hne e.symm) _ _ _ _ _, put5_keeps HK1.out (Nat.le_refl _) _ _ _ _ _⟩
      · rw [if_neg c2] at hcl
        have c6 : ib < 0 := by omega
        have c7 : ¬ 0 ≤ ia := fun h => c1 ⟨h, .inl c6⟩
        clear c1 hia hib
        by_cases c3 : m1.closed = true
        · rw [if_pos c3] at hcl
          have HO := Lib.hid (ho.trans hcl)
          rw [c3] at hc2
          clear hcl ho c3 hf0
          go_wp2_with fail
          refine (done_any m1 b m1.buf.length _ HRq.out (Nat.le_refl _) (by omega)).mono ?_
          rintro e W1 ⟨rfl, r1, k1⟩
          -- a call of done has answered: W1, r1, k1
          have HZ1 := Lib.hid (only_zero HZq.out k1 hzq hne)
          have HK1 := Lib.hid (HKq.out.trans k1)
          have HR1 := Lib.hid r1
          obtain ⟨⟨q0, q1, q2, q3, q4⟩, f0, f1, f2, f3, f4⟩ := res_cells HZ1.out
          clear k1 r1
          dsimp only [outV, markV]
          go_wp2_with fail
          refine bodyPost_ret (results_mark rfl _ _ w.heap.size _ _ _ _ rfl (put5_at HZ1.out _ _ _ _ _) Tryz.underlying46 rfl mark_info) rfl ?_
          rw [HO.out]
          exact ⟨rfl, put5_row HR1.out (fun e => hne e.symm) _ _ _ _ _, put5_keeps HK1.out (Nat.le_refl _) _ _ _ _ _⟩
        · rw [if_neg c3] at hcl
          have c3' : m1.closed = false := by simpa using c3
          have HO := Lib.hid (ho.trans hcl)
          rw [c3'] at hc2
          clear hcl ho c3 c3'
          have e2 := strB_ext m1.buf (m1.buf.length - 3)
          have emax : (max 0 ((m1.buf.length : Int) - 3)).toNat = m1.buf.length - 3 := by omega
          go_wp2_with fail
          obtain ⟨⟨q0, q1, q2, q3, q4⟩, f0, f1, f2, f3, f4⟩ := res_cells HZq.out
          have hg := Lib.hid (at_drew (put5_at (res_set (j := 0) (v := .string (strB (m1.buf.drop (m1.buf.length - 3)))) HZq.out hne) (.int .i64 0) (.string ⟨#[]⟩) (.slice none 0 0) (.bool false) (.string ⟨#[]⟩)))
          go_region
          go_wp2_with fail
          try rw [emax, e2]
          refine bodyPost_ret (results_mark rfl _ _ w.heap.size _ _ _ _ rfl hg.out Tryz.underlying46 rfl mark_info) rfl ?_
          rw [HO.out]
          refine ⟨?_, ?_, ?_⟩
          · exact ret_eq rfl
          · exact row_drew (put5_row (HRq.out.set 0 _) (fun e => hne e.symm) _ _ _ _ _)
          · exact (put5_keeps (keep_set HKq.out _) (Nat.le_refl _) _ _ _ _ _).drew
end Go.Proofs.YtbabcohidpcjjaaGreat

/-
  Contract: marks' machine: passes: what it tells and makes of the machine.
-/
namespace Go.Proofs.YtbabcohidpcjjaaGreat
open Go.RowKit Mem

set_option maxRecDepth 100000 in
set_option maxHeartbeats 4000000 in
theorem passes_any (m : MkM) (b : Nat) (x : Int) (w : World) (hr : Row w b (machV m)) (hm : maxAt w x) (hl : m.buf.length ≤ 4294967280) (hp : m.pass ≠ 0) :
    Calls Tryz.prog 41 #[.pointer (some ⟨b, 0, none⟩)] w fun e w' => e = .returned (outV (passF m)) ∧ Row w' b (machV (passF m).2.2.2) ∧ Keeps (Only b) w w' := by
  have hbw := hr.lt
  have hne : w.heap.size ≠ b := by omega
  obtain ⟨o, ho⟩ : ∃ o, o = passF m := ⟨_, rfl⟩
  rw [← ho]
  unfold passF at ho
  obtain ⟨hc0, -, hc2, -, -, -, hc6, -⟩ := mach_row hr
  have hf0 := (mach_free hr).1
  have hz : (strB m.buf).size = m.buf.length := strB_size _
  have hix : ∀ u, Calls Tryz.prog 50 #[.string (strB m.buf), .int .u8 62] u _ := fun u => IndexByte_any (strB m.buf) 62 u
  have e62 : (62 : Int).toNat.toUInt8 = 62 := rfl
  rw [e62, strB_list] at hix
  by_cases p1 : m.pass = 1
  · rw [if_pos p1] at ho
    rw [p1] at hc6
    clear hix
    obtain ⟨wa, hwa⟩ : ∃ wa, wa = w.alloc (.cells zeroMark 46) := ⟨_, rfl⟩
    have HR := Lib.hid (show Row wa b (machV m) from hwa ▸ hr.kept (heap_alloc_old w (.cells zeroMark 46) hbw))
    have HZ := Lib.hid (show wa.heap[w.heap.size]? = some (.cells zeroMark 46 (0, 0)) from hwa ▸ heap_alloc_new _ _)
    have HK := Lib.hid (show Keeps (Only b) w wa from hwa ▸ (Keeps.refl (Only b) w).alloc _)
    have hza : w.heap.size < wa.heap.size := by rw [hwa]; simp
    have HWA : Hid (wa = w.alloc (.cells #[.int .i64 0, .string ⟨#[]⟩, .slice none 0 0, .bool false, .string ⟨#[]⟩] 46)) := hwa
    clear hwa
    have HRq := HR
    have HZq := HZ
    have HKq := HK
    have hzq := hza
    have HMq := Lib.hid (max_keeps hm hr HK.out)
    have HO := Lib.hid ho
    clear hr hm ho HR HZ HK
    go_enter Tryz.func41, Tryz.ntmps41
    go_wp2_with fail
    rw [← HWA.out]
    refine (comment_any m b x _ HRq.out HMq.out hl).mono ?_
    rintro e W1 ⟨rfl, r1, k1⟩
    -- a call of done has answered: W1, r1, k1
    have HZ1 := Lib.hid (only_zero HZq.out k1 hzq hne)
    have HK1 := Lib.hid (HKq.out.trans k1)
    have HR1 := Lib.hid r1
    obtain ⟨⟨q0, q1, q2, q3, q4⟩, f0, f1, f2, f3, f4⟩ := res_cells HZ1.out
    clear k1 r1
    dsimp only [outV, markV]
    go_wp2_with fail
    refine bodyPost_ret (results_mark rfl _ _ w.heap.size _ _ _ _ rfl (put5_at HZ1.out _ _ _ _ _) Tryz.underlying46 rfl mark_info) rfl ?_
    rw [HO.out]
    exact ⟨rfl, put5_row HR1.out (fun e => hne e.symm) _ _ _ _ _, put5_keeps HK1.out (Nat.le_refl _) _ _ _ _ _⟩
  · rw [if_neg p1] at ho
    have n1 : (m.pass == 1) = false := beq_eq_false_iff_ne.2 p1
    by_cases p2 : m.pass = 2
    · rw [if_pos p2] at ho
      rw [p2] at hc6
      have hi : (∃ i : Nat, Lib.indexByte m.buf 62 = i ∧ i + 1 ≤ m.buf.length) ∨ Lib.indexByte m.buf 62 = -1 := by
        have hg := Lib.indexByte_ge m.buf 62
        by_cases h0 : 0 ≤ Lib.indexByte m.buf 62
        · obtain ⟨i, hi⟩ := Int.eq_ofNat_of_zero_le h0
          have := (List.getElem?_eq_some_iff.1 (Lib.indexByte_some hi).1).1
          exact .inl ⟨i, hi, by omega⟩
        · exact .inr (by omega)
      rcases hi with ⟨i, hi, hil⟩ | hi
      · rw [hi] at ho hix
        rw [if_pos (by omega)] at ho
        have HIX := Lib.hid hix
        clear hi hix
        obtain ⟨wa, hwa⟩ : ∃ wa, wa = w.alloc (.cells zeroMark 46) := ⟨_, rfl⟩
        have HR := Lib.hid (show Row wa b (machV m) from hwa ▸ hr.kept (heap_alloc_old w (.cells zeroMark 46) hbw))
        have HZ := Lib.hid (show wa.heap[w.heap.size]? = some (.cells zeroMark 46 (0, 0)) from hwa ▸ heap_alloc_new _ _)
        have HK := Lib.hid (show Keeps (Only b) w wa from hwa ▸ (Keeps.refl (Only b) w).alloc _)
        have hza : w.heap.size < wa.heap.size := by rw [hwa]; simp
        have HWA : Hid (wa = w.alloc (.cells #[.int .i64 0, .string ⟨#[]⟩, .slice none 0 0, .bool false, .string ⟨#[]⟩] 46)) := hwa
        clear hwa
        have HRq := HR
        have HZq := HZ
        have HKq := HK
        have hzq := hza
        have HMq := Lib.hid (max_keeps hm hr HK.out)
        have HO := Lib.hid ho
        clear hr hm ho HR HZ HK
        go_enter Tryz.func41, Tryz.ntmps41
        go_wp2_with (go_at_call 50; go_must (refine (HIX.out _).mono ?_; rintro e w1 ⟨rfl, rfl⟩))
        rw [← HWA.out]
        refine (done_any m b (i + 1) _ HRq.out hil (by omega)).mono ?_
        rintro e W1 ⟨rfl, r1, k1⟩
        -- a call of done has answered: W1, r1, k1
        have HZ1 := Lib.hid (only_zero HZq.out k1 hzq hne)
        have HK1 := Lib.hid (HKq.out.trans k1)
        have HR1 := Lib.hid r1
        obtain ⟨⟨q0, q1, q2, q3, q4⟩, f0, f1, f2, f3, f4⟩ := res_cells HZ1.out
        clear k1 r1
        dsimp only [outV, markV]
        go_wp2_with fail
        refine bodyPost_ret (results_mark rfl _ _ w.heap.size _ _ _ _ rfl (put5_at HZ1.out _ _ _ _ _) Tryz.underlying46 rfl mark_info) rfl ?_
        rw [HO.out]
        exact ⟨rfl, put5_row HR1.out (fun e => hne e.symm) _ _ _ _ _, put5_keeps HK1.out (Nat.le_refl _) _ _ _ _ _⟩
      · rw [hi] at ho hix
        rw [if_neg (by omega)] at ho
        have HIX := Lib.hid hix
        clear hi hix
        by_cases p3 : m.closed = true
        · rw [if_pos p3] at ho
          rw [p3] at hc2
          obtain ⟨wa, hwa⟩ : ∃ wa, wa = w.alloc (.cells zeroMark 46) := ⟨_, rfl⟩
          have HR := Lib.hid (show Row wa b (machV m) from hwa ▸ hr.kept (heap_alloc_old w (.cells zeroMark 46) hbw))
          have HZ := Lib.hid (show wa.heap[w.heap.size]? = some (.cells zeroMark 46 (0, 0)) from hwa ▸ heap_alloc_new _ _)
          have HK := Lib.hid (show Keeps (Only b) w wa from hwa ▸ (Keeps.refl (Only b) w).alloc _)
          have hza : w.heap.size < wa.heap.size := by rw [hwa]; simp
          have HWA : Hid (wa = w.alloc (.cells #[.int .i64 0, .string ⟨#[]⟩, .slice none 0 0, .bool false, .string ⟨#[]⟩] 46)) := hwa
          clear hwa
          have HRq := HR
          have HZq := HZ
          have HKq := HK
          have hzq := hza
          have HMq := Lib.hid (max_keeps hm hr HK.out)
          have HO := Lib.hid ho
          clear hr hm ho HR HZ HK
          go_enter Tryz.func41, Tryz.ntmps41
          go_wp2_with (go_at_call 50; go_must (refine (HIX.out _).mono ?_; rintro e w1 ⟨rfl, rfl⟩))
          rw [← HWA.out]
          refine (done_any m b m.buf.length _ HRq.out (Nat.le_refl _) (by omega)).mono ?_
          rintro e W1 ⟨rfl, r1, k1⟩
          -- a call of done has answered: W1, r1, k1
          have HZ1 := Lib.hid (only_zero HZq.out k1 hzq hne)
          have HK1 := Lib.hid (HKq.out.trans k1)
          have HR1 := Lib.hid r1
          obtain ⟨⟨q0, q1, q2, q3, q4⟩, f0, f1, f2, f3, f4⟩ := res_cells HZ1.out
          clear k1 r1
          dsimp only [outV, markV]
          go_wp2_with fail
          refine bodyPost_ret (results_mark rfl _ _ w.heap.size _ _ _ _ rfl (put5_at HZ1.out _ _ _ _ _) Tryz.underlying46 rfl mark_info) rfl ?_
          rw [HO.out]
          exact ⟨rfl, put5_row HR1.out (fun e => hne e.symm) _ _ _ _ _, put5_keeps HK1.out (Nat.le_refl _) _ _ _ _ _⟩
        · rw [if_neg p3] at ho
          have p3' : m.closed = false := by simpa using p3
          rw [p3'] at hc2
          have HR0 := Lib.hid hr
          obtain ⟨wa, hwa⟩ : ∃ wa, wa = w.alloc (.cells zeroMark 46) := ⟨_, rfl⟩
          have HR := Lib.hid (show Row wa b (machV m) from hwa ▸ hr.kept (heap_alloc_old w (.cells zeroMark 46) hbw))
          have HZ := Lib.hid (show wa.heap[w.heap.size]? = some (.cells zeroMark 46 (0, 0)) from hwa ▸ heap_alloc_new _ _)
          have HK := Lib.hid (show Keeps (Only b) w wa from hwa ▸ (Keeps.refl (Only b) w).alloc _)
          have hza : w.heap.size < wa.heap.size := by rw [hwa]; simp
          have HWA : Hid (wa = w.alloc (.cells #[.int .i64 0, .string ⟨#[]⟩, .slice none 0 0, .bool false, .string ⟨#[]⟩] 46)) := hwa
          clear hwa
          have HRq := HR
          have HZq := HZ
          have HKq := HK
          have hzq := hza
          have HMq := Lib.hid (max_keeps hm hr HK.out)
          have HO := Lib.hid ho
          clear hr hm ho HR HZ HK
          go_enter Tryz.func41, Tryz.ntmps41
          go_wp2_with (go_at_call 50; go_must (refine (HIX.out _).mono ?_; rintro e w1 ⟨rfl, rfl⟩))
          refine bodyPost_ret (results_mark rfl _ _ w.heap.size _ _ _ _ rfl (alloc_at (by simp)) Tryz.underlying46 rfl mark_info) rfl ?_
          rw [HO.out]
          exact ⟨ret_eq rfl, (HR0.out.set 0 (.string (strB []))).kept (heap_alloc_old _ _ (by simp; exact hbw)), (keep_set (Keeps.refl (Only b) w) _).alloc _⟩
    · rw [if_neg p2] at ho
      have n2 : (m.pass == 2) = false := beq_eq_false_iff_ne.2 p2
      clear hix
      obtain ⟨wa, hwa⟩ : ∃ wa, wa = w.alloc (.cells zeroMark 46) := ⟨_, rfl⟩
      have HR := Lib.hid (show Row wa b (machV m) from hwa ▸ hr.kept (heap_alloc_old w (.cells zeroMark 46) hbw))
      have HZ := Lib.hid (show wa.heap[w.heap.size]? = some (.cells zeroMark 46 (0, 0)) from hwa ▸ heap_alloc_new _ _)
      have HK := Lib.hid (show Keeps (Only b) w wa from hwa ▸ (Keeps.refl (Only b) w).alloc _)
      have hza : w.heap.size < wa.heap.size := by rw [hwa]; simp
      have HWA : Hid (wa = w.alloc (.cells #[.int .i64 0, .string ⟨#[]⟩, .slice none 0 0, .bool false, .string ⟨#[]⟩] 46)) := hwa
      clear hwa
      have HRq := HR
      have HZq := HZ
      have HKq := HK
      have hzq := hza
      have HMq := Lib.hid (max_keeps hm hr HK.out)
      have HO := Lib.hid ho
      clear hr hm ho HR HZ HK
      go_enter Tryz.func41, Tryz.ntmps41
      go_wp2_with fail
      rw [← HWA.out]
      refine (characters_any m b x _ HRq.out HMq.out hl hp).mono ?_
      rintro e W1 ⟨rfl, r1, k1⟩
      -- a call of done has answered: W1, r1, k1
      have HZ1 := Lib.hid (only_zero HZq.out k1 hzq hne)
      have HK1 := Lib.hid (HKq.out.trans k1)
      have HR1 := Lib.hid r1
      obtain ⟨⟨q0, q1, q2, q3, q4⟩, f0, f1, f2, f3, f4⟩ := res_cells HZ1.out
      clear k1 r1
      dsimp only [outV, markV]
      go_wp2_with fail
      refine bodyPost_ret (results_mark rfl _ _ w.heap.size _ _ _ _ rfl (put5_at HZ1.out _ _ _ _ _) Tryz.underlying46 rfl mark_info) rfl ?_
      rw [HO.out]
      exact ⟨rfl, put5_row HR1.out (fun e => hne e.symm) _ _ _ _ _, put5_keeps HK1.out (Nat.le_refl _) _ _ _ _ _⟩
end Go.Proofs.YtbabcohidpcjjaaGreat
