import Derived.Test.YtbabcohidpcjjaaGreatZMkT
/-
  Contracts: marks' cursor: until, spaces: over a tag's bytes.
-/
namespace Go.Proofs.YtbabcohidpcjjaaGreat
open Go.RowKit Mem

/-- a cursor's cells -/
def curV (s : ByteArray) (i : Nat) : List Value := [.string s, .int .i64 i]
theorem dropWhile_all (p : UInt8 → Bool) : ∀ l : Str, (∀ c ∈ l, p c = true) → l.dropWhile p = []
  | [], _ => rfl
  | c :: l, h => by rw [List.dropWhile_cons, if_pos (h c List.mem_cons_self)]; exact dropWhile_all p l fun d hd => h d (List.mem_cons_of_mem _ hd)
theorem cur_set (s : ByteArray) (i j : Nat) {z : Int} (hz : z = (j : Nat)) : (curV s i).set 1 (.int .i64 z) = curV s j := by rw [hz]; rfl
theorem until_cases (sg l : Str) : (untilF sg l = none ∧ Lib.indexAny l sg = -1) ∨ ∃ n : Nat, n < l.length ∧ untilF sg l = some (l.take n, l.drop n) ∧ Lib.indexAny l sg = n := by
  rcases any_cases sg l with ⟨h1, h2⟩ | ⟨i, c, r, h1, hi, hd, hc, hp⟩
  · left
    refine ⟨?_, h1⟩
    unfold untilF
    rw [if_pos (dropWhile_all _ l fun c hc => by rw [h2 c hc]; rfl)]
  · right
    refine ⟨i, hi, ?_, h1⟩
    have htw : l.takeWhile (fun c => !sg.contains c) = l.take i := by
      conv => lhs; rw [← List.take_append_drop i l, hd]
      rw [List.takeWhile_append_of_pos (fun d hd => by rw [hp d hd]; rfl), List.takeWhile_cons, if_neg (by rw [hc]; simp), List.append_nil]
    have hdw : l.dropWhile (fun c => !sg.contains c) = l.drop i := by
      conv => lhs; rw [← List.take_append_drop i l, hd]
      rw [List.dropWhile_append_of_pos (fun d hd => by rw [hp d hd]; rfl), List.dropWhile_cons, if_neg (by rw [hc]; simp), hd]
    unfold untilF
    rw [htw, hdw, if_neg (by rw [hd]; simp)]
theorem ext_mid (s : ByteArray) (i n : Nat) : s.extract i (i + n) = strB ((s.toList.drop i).take n) := by
  apply toList_inj
  rw [toList_strB, ext_list, Nat.add_sub_cancel_left]
theorem ext_end (s : ByteArray) (i : Nat) : (s.extract i s.size).toList = s.toList.drop i := ext_drop' s i

set_option maxRecDepth 100000 in
set_option maxHeartbeats 2000000 in
theorem until_no (s sg : ByteArray) (g i : Nat) (w : World) (hr : Row w g (curV s i)) (hi : i ≤ s.size) (hs : s.size ≤ 4294967280) (h1 : 1 ≤ sg.size) (hc : Ascii sg) (hcs : sg.size ≤ 1000) (hu : untilF sg.toList (s.toList.drop i) = none) :
    Calls Tryz.prog 92 #[.pointer (some ⟨g, 0, none⟩), .string sg] w fun e w' => e = .returned (.tuple #[.string ⟨#[]⟩, .bool false]) ∧ Below w.heap.size w w' := by
  have hc0 : w.cell? ⟨g, 0, none⟩ = some (.string s) := hr.cell (j := 0) rfl
  have hc1 : w.cell? ⟨g, 1, none⟩ = some (.int .i64 i) := hr.cell (j := 1) rfl
  have hx : Lib.indexAny (s.toList.drop i) sg.toList = -1 := by
    rcases until_cases sg.toList (s.toList.drop i) with ⟨_, h⟩ | ⟨n, _, h, _⟩
    · exact h
    · rw [hu] at h; cases h
  have hix := fun u => IndexAny_any (s.extract i s.size) sg u h1 hc (by rw [ByteArray.size_extract]; omega) (by omega)
  rw [ext_end, hx] at hix
  have HIX := Lib.hid hix
  have hi2 : (i : Int) ≤ (s.size : Int) := by omega
  have hi3 : (0 : Int) ≤ (i : Int) := by omega
  clear hix hx hu hc hr
  go_enter Tryz.func92, Tryz.ntmps92
  go_wp2_with fail
  refine wp_region_calm (by kernel_rfl) (by kernel_rfl) ?_
  repeat
    with_reducible refine wpQuiet_step (fun K hK => ?_)
    first
      | (with_reducible apply calm_skip
         · rfl
         simp only [Act.put, List.setIfInBounds_toArray, List.set_cons_zero, List.set_cons_succ]
         refine hK _ ?_
         clear hK K)
      | (with_reducible apply calm_run
         · rfl
         · intro wq hC
           have zhc0 := cell_later hC.out hc0
           have zhc1 := cell_later hC.out hc1
           unfold Oper.quietAt
           go_simp
           first | done | (go_at_call 65; go_must (refine (HIX.out _).mono ?_; rintro e wx ⟨rfl, hb⟩; exact ⟨rfl, belowCall hC hb⟩)) | with_reducible rfl | rfl
         simp only [Act.put, List.setIfInBounds_toArray, List.set_cons_zero, List.set_cons_succ]
         refine hK _ ?_
         clear hK K)
  with_reducible refine wpQuiet_nil ?_
  intro wq HQ
  have zhc0 := cell_later HQ.out hc0
  have zhc1 := cell_later HQ.out hc1
  go_wp2_with fail
  go_ret2
  exact ⟨rfl, HQ.out⟩

set_option maxRecDepth 100000 in
set_option maxHeartbeats 2000000 in
theorem until_yes (s sg : ByteArray) (g i n : Nat) (w : World) (hr : Row w g (curV s i)) (hin : i + n < s.size) (hs : s.size ≤ 4294967280) (h1 : 1 ≤ sg.size) (hc : Ascii sg) (hcs : sg.size ≤ 1000) (hu : untilF sg.toList (s.toList.drop i) = some ((s.toList.drop i).take n, s.toList.drop (i + n))) :
    Calls Tryz.prog 92 #[.pointer (some ⟨g, 0, none⟩), .string sg] w fun e w' => e = .returned (.tuple #[.string (strB ((s.toList.drop i).take n)), .bool true]) ∧ Row w' g (curV s (i + n)) ∧ Keeps (Only g) w w' := by
  have hc0 : w.cell? ⟨g, 0, none⟩ = some (.string s) := hr.cell (j := 0) rfl
  have hc1 : w.cell? ⟨g, 1, none⟩ = some (.int .i64 i) := hr.cell (j := 1) rfl
  have hgw := hr.lt
  have hlen : (s.toList.drop i).length = s.size - i := by rw [List.length_drop, size_toList]
  have hx : Lib.indexAny (s.toList.drop i) sg.toList = n := by
    rcases until_cases sg.toList (s.toList.drop i) with ⟨h, _⟩ | ⟨k, hk, h, hx⟩
    · rw [hu] at h; cases h
    · rw [hu] at h
      have h2 := congrArg (fun o => (o.map fun p => p.2.length).getD 0) h
      simp only [Option.map_some, Option.getD_some, List.length_drop, size_toList] at h2
      rw [hx]
      omega
  have hix := fun u => IndexAny_any (s.extract i s.size) sg u h1 hc (by rw [ByteArray.size_extract]; omega) (by omega)
  rw [ext_end, hx] at hix
  have HIX := Lib.hid hix
  have hi2 : (i : Int) ≤ (s.size : Int) := by omega
  have hi3 : (0 : Int) ≤ (i : Int) := by omega
  have hin2 : (i : Int) + (n : Int) ≤ (s.size : Int) := by omega
  have hin3 : (i : Int) ≤ (i : Int) + (n : Int) := by omega
  have hwr : IntKind.i64.wrap ((i : Int) + (n : Int)) = (i : Int) + (n : Int) := wrap_small _ (by omega) (by omega)
  have htn : ((i : Int) + (n : Int)).toNat = i + n := by omega
  have hin4 : (0 : Int) ≤ (i : Int) + (n : Int) := by omega
  have hem := ext_mid s i n
  have HR := Lib.hid hr
  clear hix hx hu hc hr
  go_enter Tryz.func92, Tryz.ntmps92
  go_wp2_with fail
  refine wp_region_calm (by kernel_rfl) (by kernel_rfl) ?_
  repeat
    with_reducible refine wpQuiet_step (fun K hK => ?_)
    first
      | (with_reducible apply calm_skip
         · rfl
         simp only [Act.put, List.setIfInBounds_toArray, List.set_cons_zero, List.set_cons_succ]
         refine hK _ ?_
         clear hK K)
      | (with_reducible apply calm_run
         · rfl
         · intro wq hC
           have zhc0 := cell_later hC.out hc0
           have zhc1 := cell_later hC.out hc1
           unfold Oper.quietAt
           go_simp
           first | done | (go_at_call 65; go_must (refine (HIX.out _).mono ?_; rintro e wx ⟨rfl, hb⟩; exact ⟨rfl, belowCall hC hb⟩)) | with_reducible rfl | rfl
         simp only [Act.put, List.setIfInBounds_toArray, List.set_cons_zero, List.set_cons_succ]
         refine hK _ ?_
         clear hK K)
  with_reducible refine wpQuiet_nil ?_
  intro wq HQ
  have zhc0 := cell_later HQ.out hc0
  have zhc1 := cell_later HQ.out hc1
  have HB1 := Lib.hid HQ.out
  have hd0 := zhc0
  have hd1 := zhc1
  clear hc0 hc1 zhc0 zhc1 HQ
  go_wp2_with fail
  refine wp_region_calm (by kernel_rfl) (by kernel_rfl) ?_
  repeat
    with_reducible refine wpQuiet_step (fun K hK => ?_)
    first
      | (with_reducible apply calm_skip
         · rfl
         simp only [Act.put, List.setIfInBounds_toArray, List.set_cons_zero, List.set_cons_succ]
         refine hK _ ?_
         clear hK K)
      | (with_reducible apply calm_run
         · rfl
         · intro wq hC
           have zhd0 := cell_later hC.out hd0
           have zhd1 := cell_later hC.out hd1
           unfold Oper.quietAt
           go_simp
           first | done | with_reducible rfl | rfl
         simp only [Act.put, List.setIfInBounds_toArray, List.set_cons_zero, List.set_cons_succ]
         refine hK _ ?_
         clear hK K)
  with_reducible refine wpQuiet_nil ?_
  intro wq HQ
  have zhd0 := cell_later HQ.out hd0
  have zhd1 := cell_later HQ.out hd1
  have HB2 := Lib.hid (belowCall HB1.out HQ.out)
  have HR2 := Lib.hid (HR.out.below HB2.out hgw)
  have hf1 : wq.frozen? ⟨g, 1, none⟩ = false := HR2.out.frozen (j := 1) (by simp [curV])
  clear hd0 hd1
  go_wp2_with fail
  go_ret2
  refine ⟨rfl, ?_, keep_set (Keeps.ofBelow HB2.out) _⟩
  rw [← cur_set s i (i + n) (z := (i : Int) + (n : Int)) (by omega)]
  exact HR2.out.set 1 _

theorem while_split (p : UInt8 → Bool) : ∀ l : Str, ∃ n, n ≤ l.length ∧ l.takeWhile p = l.take n ∧ l.dropWhile p = l.drop n ∧ (∀ c ∈ l.take n, p c = true) ∧ ∀ c r, l.drop n = c :: r → p c = false
  | [] => ⟨0, Nat.le_refl _, rfl, rfl, fun _ h => (by cases h), fun _ _ h => (by cases h)⟩
  | b :: l => by
    cases hb : p b
    · refine ⟨0, Nat.zero_le _, by rw [List.takeWhile_cons, if_neg (by rw [hb]; simp)]; rfl, by rw [List.dropWhile_cons, if_neg (by rw [hb]; simp)]; rfl, fun c h => (by cases h), fun c r h => ?_⟩
      cases h
      exact hb
    · obtain ⟨n, h1, h2, h3, h4, h5⟩ := while_split p l
      refine ⟨n + 1, by simp only [List.length_cons]; omega, by rw [List.takeWhile_cons, if_pos hb, h2]; rfl, by rw [List.dropWhile_cons, if_pos hb, h3]; rfl, fun c hc => ?_, h5⟩
      rw [List.take_succ_cons] at hc
      rcases List.mem_cons.1 hc with rfl | hc
      · exact hb
      · exact h4 c hc
theorem list_at (s : ByteArray) (k : Nat) (h : k < s.size) : s.toList.drop k = s[k] :: s.toList.drop (k + 1) := by
  have hk : k < s.toList.length := by rw [size_toList]; exact h
  rw [List.drop_eq_getElem_cons hk, byte_at s k h hk]

/-- where a cursor stands -/
def curAt (w : World) (g : Nat) : Nat := match w.cell? ⟨g, 1, none⟩ with
  | some (.int _ i) => i.toNat
  | _ => 0
theorem curAt_row {w : World} {g i : Nat} {s : ByteArray} (h : Row w g (curV s i)) : curAt w g = i := by
  unfold curAt
  rw [show w.cell? ⟨g, 1, none⟩ = some (.int .i64 i) from h.cell (j := 1) rfl]
  rfl
set_option maxRecDepth 100000 in
set_option maxHeartbeats 2000000 in
/-- spaces: n bytes on -/
theorem spaces_any (s : ByteArray) (g i n : Nat) (w : World) (hr : Row w g (curV s i)) (hin : i + n ≤ s.size) (hs : s.size ≤ 4294967280) (h1 : ∀ c ∈ (s.toList.drop i).take n, spaceB c = true) (h2 : ∀ c r, s.toList.drop (i + n) = c :: r → spaceB c = false) :
    Calls Tryz.prog 109 #[.pointer (some ⟨g, 0, none⟩)] w fun e w' => e = .returned (.tuple #[]) ∧ Row w' g (curV s (i + n)) ∧ Keeps (Only g) w w' := by
  have hgw := hr.lt
  have H1 := Lib.hid h1
  have H2 := Lib.hid h2
  have HR := Lib.hid hr
  clear hr h1 h2
  go_enter Tryz.func109, Tryz.ntmps109
  go_wp2_with fail
  go_loopw [2] (fun _ wr => ∃ k : Nat, k ≤ n ∧ Row wr g (curV s (i + k)) ∧ Keeps (Only g) w wr) (fun _ wr => s.size - curAt wr g)
  case atStart => exact ⟨0, Nat.zero_le _, HR.out, Keeps.refl _ _⟩
  case round =>
    obtain ⟨k, hk, hrr, hkk⟩ := hrel
    obtain ⟨j, hj⟩ : ∃ j, j = i + k := ⟨_, rfl⟩
    rw [← hj] at hrr
    have hc0 : wr.cell? ⟨g, 0, none⟩ = some (.string s) := hrr.cell (j := 0) rfl
    have hc1 : wr.cell? ⟨g, 1, none⟩ = some (.int .i64 j) := hrr.cell (j := 1) rfl
    have HCA := Lib.hid (curAt_row hrr)
    have HRr := Lib.hid hrr
    have HKr := Lib.hid hkk
    have HJ := Lib.hid hj
    clear hrr hkk
    by_cases hjs : j < s.size
    · have hjs2 : (j : Int) < (s.size : Int) := by omega
      have hd1 : decide (j < s.size) = true := decide_eq_true hjs
      have hd2 : decide ((j : Int) < (s.size : Int)) = true := decide_eq_true hjs2
      have hsp := fun u => space_any s[j] u
      have hat := list_at s j hjs
      have hu := s[j].toNat_lt
      by_cases hkn : k < n
      · have hb : spaceB s[j] = true := by
          refine H1.out _ ?_
          have : ((s.toList.drop i).take n)[k]? = some s[j] := by
            rw [List.getElem?_take_of_lt hkn, List.getElem?_drop, ← hj, ByteArray.toList_eq, Lib.data_getElem? s j hjs]
          exact List.mem_of_getElem? this
        rw [hb] at hsp
        have HSP := Lib.hid hsp
        clear hsp hat hb hj
        go_wp2_with fail
        refine wp_region_calm (by kernel_rfl) (by kernel_rfl) ?_
        repeat
          with_reducible refine wpQuiet_step (fun K hK => ?_)
          first
            | (with_reducible apply calm_skip
               · rfl
               simp only [Act.put, List.setIfInBounds_toArray, List.set_cons_zero, List.set_cons_succ]
               refine hK _ ?_
               clear hK K)
            | (with_reducible apply calm_run
               · rfl
               · intro wq hC
                 have zhc0 := cell_later hC.out hc0
                 have zhc1 := cell_later hC.out hc1
                 unfold Oper.quietAt
                 go_simp
                 first | done | (go_at_call 94; go_must (refine (HSP.out _).mono ?_; rintro e wx ⟨rfl, rfl⟩; exact ⟨rfl, hC⟩)) | with_reducible rfl | rfl
               simp only [Act.put, List.setIfInBounds_toArray, List.set_cons_zero, List.set_cons_succ]
               refine hK _ ?_
               clear hK K)
        with_reducible refine wpQuiet_nil ?_
        intro wq HQ
        have zhc0 := cell_later HQ.out hc0
        have zhc1 := cell_later HQ.out hc1
        have HRq := Lib.hid (HRr.out.below HQ.out HRr.out.lt)
        have HKq := Lib.hid (keeps_then' HKr.out HQ.out)
        have hf1 : wq.frozen? ⟨g, 1, none⟩ = false := HRq.out.frozen (j := 1) (by simp [curV])
        clear hc0 hc1 zhc0
        go_wp2_with fail
        go_roundw
        case rel =>
          have hj := HJ.out
          refine ⟨k + 1, by omega, ?_, keep_set HKq.out _⟩
          rw [← cur_set s j (i + (k + 1)) (z := (j : Int) + 1) (by omega)]
          exact HRq.out.set 1 _
        case measure =>
          rw [HCA.out, curAt_row (s := s) (i := j + 1) (by rw [← cur_set s j (j + 1) (z := (j : Int) + 1) (by omega)]; exact HRq.out.set 1 _)]
          omega
      · obtain rfl : k = n := by omega
        have hb : spaceB s[j] = false := H2.out _ _ (by rw [← hj]; exact hat)
        rw [hb] at hsp
        have HSP := Lib.hid hsp
        clear hsp hat hb hj
        go_wp2_with fail
        refine wp_region_calm (by kernel_rfl) (by kernel_rfl) ?_
        repeat
          with_reducible refine wpQuiet_step (fun K hK => ?_)
          first
            | (with_reducible apply calm_skip
               · rfl
               simp only [Act.put, List.setIfInBounds_toArray, List.set_cons_zero, List.set_cons_succ]
               refine hK _ ?_
               clear hK K)
            | (with_reducible apply calm_run
               · rfl
               · intro wq hC
                 have zhc0 := cell_later hC.out hc0
                 have zhc1 := cell_later hC.out hc1
                 unfold Oper.quietAt
                 go_simp
                 first | done | (go_at_call 94; go_must (refine (HSP.out _).mono ?_; rintro e wx ⟨rfl, rfl⟩; exact ⟨rfl, hC⟩)) | with_reducible rfl | rfl
               simp only [Act.put, List.setIfInBounds_toArray, List.set_cons_zero, List.set_cons_succ]
               refine hK _ ?_
               clear hK K)
        with_reducible refine wpQuiet_nil ?_
        intro wq HQ
        have zhc0 := cell_later HQ.out hc0
        have zhc1 := cell_later HQ.out hc1
        go_wp2_with fail
        go_end0
        exact ⟨rfl, by rw [← HJ.out]; exact HRr.out.below HQ.out HRr.out.lt, keeps_then' HKr.out HQ.out⟩
    · have hjs2 : ¬ (j : Int) < (s.size : Int) := by omega
      have hd1 : decide (j < s.size) = false := decide_eq_false hjs
      have hd2 : decide ((j : Int) < (s.size : Int)) = false := decide_eq_false hjs2
      obtain rfl : k = n := by omega
      clear hj
      go_wp2_with fail
      refine wp_region_calm (by kernel_rfl) (by kernel_rfl) ?_
      repeat
        with_reducible refine wpQuiet_step (fun K hK => ?_)
        first
          | (with_reducible apply calm_skip
             · rfl
             simp only [Act.put, List.setIfInBounds_toArray, List.set_cons_zero, List.set_cons_succ]
             refine hK _ ?_
             clear hK K)
          | (with_reducible apply calm_run
             · rfl
             · intro wq hC
               have zhc0 := cell_later hC.out hc0
               have zhc1 := cell_later hC.out hc1
               unfold Oper.quietAt
               go_simp
               first | done | with_reducible rfl | rfl
             simp only [Act.put, List.setIfInBounds_toArray, List.set_cons_zero, List.set_cons_succ]
             refine hK _ ?_
             clear hK K)
      with_reducible refine wpQuiet_nil ?_
      intro wq HQ
      have zhc0 := cell_later HQ.out hc0
      have zhc1 := cell_later HQ.out hc1
      go_wp2_with fail
      go_end0
      exact ⟨rfl, by rw [← HJ.out]; exact HRr.out.below HQ.out HRr.out.lt, keeps_then' HKr.out HQ.out⟩
end Go.Proofs.YtbabcohidpcjjaaGreat

/-
  Contract: marks' cursor: value: a value behind its =.
-/
namespace Go.Proofs.YtbabcohidpcjjaaGreat
open Go.RowKit Mem

theorem ascii_of {l : Str} (h : ∀ c ∈ l, c.toNat < 128) : Ascii ⟨l.toArray⟩ := fun _ c hj => h c (List.mem_of_getElem? hj)
theorem ret_sb {a b : ByteArray} {i j : Bool} (h : a = b) (h' : i = j) : Ending.returned (.tuple #[.string a, .bool i]) = .returned (.tuple #[.string b, .bool j]) := by rw [h, h']
/-- behind the spaces: where the cursor stands, and what is there -/
theorem spaces_drop (s : ByteArray) (i : Nat) (hi : i ≤ s.size) : ∃ n, i + n ≤ s.size ∧ (s.toList.drop i).dropWhile spaceB = s.toList.drop (i + n) ∧ (∀ c ∈ (s.toList.drop i).take n, spaceB c = true) ∧ ∀ c r, s.toList.drop (i + n) = c :: r → spaceB c = false := by
  obtain ⟨n, h1, _, h3, h4, h5⟩ := while_split spaceB (s.toList.drop i)
  rw [List.length_drop, size_toList] at h1
  rw [List.drop_drop] at h3 h5
  exact ⟨n, by omega, h3, h4, h5⟩

theorem sufx_drop {s : ByteArray} {r : Str} {i : Nat} (h : r <:+ s.toList.drop i) : r = s.toList.drop (s.size - r.length) := by
  have h2 := h.trans (List.drop_suffix i s.toList)
  have := List.suffix_iff_eq_drop.1 h2
  rwa [size_toList] at this
set_option maxRecDepth 100000 in
set_option maxHeartbeats 4000000 in
theorem value_no (s : ByteArray) (g i : Nat) (w : World) (hr : Row w g (curV s i)) (hi : i ≤ s.size) (hs : s.size ≤ 4294967280) (hv : valueF (s.toList.drop i) = none) :
    Calls Tryz.prog 110 #[.pointer (some ⟨g, 0, none⟩)] w fun e w' => e = .returned (.tuple #[.string ⟨#[]⟩, .bool false]) ∧ Keeps (Only g) w w' := by
  obtain ⟨n, hn, hd, h4, h5⟩ := spaces_drop s i hi
  unfold valueF at hv
  rw [hd] at hv
  obtain ⟨j, hj⟩ : ∃ j, j = i + n := ⟨_, rfl⟩
  have HSP := Lib.hid (spaces_any s g i n w hr hn hs h4 h5)
  rw [← hj] at HSP hv hn
  clear hr h4 h5 hd hj
  by_cases hjs : j = s.size
  · subst hjs
    go_enter Tryz.func110, Tryz.ntmps110
    go_wp2_with fail
    refine HSP.out.mono ?_
    rintro e W1 ⟨rfl, hrr, hk⟩
    have hc0 : W1.cell? ⟨g, 0, none⟩ = some (.string s) := hrr.cell (j := 0) rfl
    have hc1 : W1.cell? ⟨g, 1, none⟩ = some (.int .i64 s.size) := hrr.cell (j := 1) rfl
    have HK := Lib.hid hk
    clear hrr hk
    dsimp only
    go_wp2_with fail
    refine wp_region_calm (by kernel_rfl) (by kernel_rfl) ?_
    repeat
      with_reducible refine wpQuiet_step (fun K hK => ?_)
      first
        | (with_reducible apply calm_skip
           · rfl
           simp only [Act.put, List.setIfInBounds_toArray, List.set_cons_zero, List.set_cons_succ]
           refine hK _ ?_
           clear hK K)
        | (with_reducible apply calm_run
           · rfl
           · intro wq hC
             have zhc0 := cell_later hC.out hc0
             have zhc1 := cell_later hC.out hc1
             unfold Oper.quietAt
             go_simp
             first | done | with_reducible rfl | rfl
           simp only [Act.put, List.setIfInBounds_toArray, List.set_cons_zero, List.set_cons_succ]
           refine hK _ ?_
           clear hK K)
    with_reducible refine wpQuiet_nil ?_
    intro wq HQ
    have zhc0 := cell_later HQ.out hc0
    have zhc1 := cell_later HQ.out hc1
    go_wp2_with fail
    go_ret2
    exact ⟨rfl, keeps_then' HK.out HQ.out⟩
  · have hjs2 : j < s.size := by omega
    have hjs3 : ((j : Int) == (s.size : Int)) = false := by rw [beq_eq_false_iff_ne]; omega
    rw [list_at s j hjs2] at hv
    simp only at hv
    have e1 : s.extract j (j + 1) = strB [s[j]] := by rw [ext_mid, list_at s j hjs2]; rfl
    have hle1 : (j : Int) + 1 ≤ (s.size : Int) := by omega
    have hle2 : (0 : Int) ≤ (j : Int) + 1 := by omega
    have hle3 : (j : Int) ≤ (j : Int) + 1 := by omega
    have hwr : IntKind.i64.wrap ((j : Int) + 1) = (j : Int) + 1 := wrap_small _ (by omega) (by omega)
    have htn : ((j : Int) + 1).toNat = j + 1 := by omega
    have hj0 : (0 : Int) ≤ (j : Int) := by omega
    by_cases hq : s[j] = 34 ∨ s[j] = 39
    · rw [if_pos hq] at hv
      have hu : untilF [s[j]] (s.toList.drop (j + 1)) = none := by
        cases h : untilF [s[j]] (s.toList.drop (j + 1)) with
        | none => rfl
        | some p => rw [h] at hv; cases hv
      have hqb : ((strB [s[j]]).toList == ([34] : Str)) = true ∨ (((strB [s[j]]).toList == ([34] : Str)) = false ∧ ((strB [s[j]]).toList == ([39] : Str)) = true) := by
        rw [toList_strB]
        rcases hq with h | h <;> rw [h]
        · exact .inl rfl
        · exact .inr ⟨rfl, rfl⟩
      have hqa : Ascii (strB [s[j]]) := ascii_of fun c hc => by
        obtain rfl := List.mem_singleton.1 hc
        rcases hq with h | h <;> rw [h] <;> decide
      have HU := Lib.hid (fun u hu' => until_no s (strB [s[j]]) g (j + 1) u hu' (by omega) hs (by rw [strB_size]; exact Nat.le_refl 1) hqa (by rw [strB_size]; simp) (by rw [toList_strB]; exact hu))
      clear hv hq hu hqa
      rcases hqb with hqb | ⟨hqb, hqc⟩
      all_goals
        go_enter Tryz.func110, Tryz.ntmps110
        go_wp2_with fail
        refine HSP.out.mono ?_
        rintro e W1 ⟨rfl, hrr, hk⟩
        have hc0 : W1.cell? ⟨g, 0, none⟩ = some (.string s) := hrr.cell (j := 0) rfl
        have hc1 : W1.cell? ⟨g, 1, none⟩ = some (.int .i64 j) := hrr.cell (j := 1) rfl
        have HR := Lib.hid hrr
        have HK := Lib.hid hk
        clear hrr hk
        dsimp only
        go_wp2_with fail
        refine wp_region_calm (by kernel_rfl) (by kernel_rfl) ?_
        repeat
          with_reducible refine wpQuiet_step (fun K hK => ?_)
          first
            | (with_reducible apply calm_skip
               · rfl
               simp only [Act.put, List.setIfInBounds_toArray, List.set_cons_zero, List.set_cons_succ]
               refine hK _ ?_
               clear hK K)
            | (with_reducible apply calm_run
               · rfl
               · intro wq hC
                 have zhc0 := cell_later hC.out hc0
                 have zhc1 := cell_later hC.out hc1
                 unfold Oper.quietAt
                 go_simp
                 first | done | with_reducible rfl | rfl
               simp only [Act.put, List.setIfInBounds_toArray, List.set_cons_zero, List.set_cons_succ]
               refine hK _ ?_
               clear hK K)
        with_reducible refine wpQuiet_nil ?_
        intro wq HQ
        have zhc0 := cell_later HQ.out hc0
        have zhc1 := cell_later HQ.out hc1
        have HR1 := Lib.hid (HR.out.below HQ.out HR.out.lt)
        have HK1 := Lib.hid (keeps_then' HK.out HQ.out)
        have hd0 := zhc0
        have hd1 := zhc1
        clear hc0 hc1 zhc0 zhc1 HQ HR HK
        go_wp2_with fail
        refine wp_region_calm (by kernel_rfl) (by kernel_rfl) ?_
        repeat
          with_reducible refine wpQuiet_step (fun K hK => ?_)
          first
            | (with_reducible apply calm_skip
               · rfl
               simp only [Act.put, List.setIfInBounds_toArray, List.set_cons_zero, List.set_cons_succ]
               refine hK _ ?_
               clear hK K)
            | (with_reducible apply calm_run
               · rfl
               · intro wq hC
                 have zhd0 := cell_later hC.out hd0
                 have zhd1 := cell_later hC.out hd1
                 unfold Oper.quietAt
                 go_simp
                 first | done | with_reducible rfl | rfl
               simp only [Act.put, List.setIfInBounds_toArray, List.set_cons_zero, List.set_cons_succ]
               refine hK _ ?_
               clear hK K)
        with_reducible refine wpQuiet_nil ?_
        intro wq HQ
        have zhd0 := cell_later HQ.out hd0
        have zhd1 := cell_later HQ.out hd1
        have HR2 := Lib.hid (HR1.out.below HQ.out HR1.out.lt)
        have HK2 := Lib.hid (keeps_then' HK1.out HQ.out)
        have hf1 : wq.frozen? ⟨g, 1, none⟩ = false := HR2.out.frozen (j := 1) (by simp [curV])
        have hc1 := zhd1
        clear hd0 hd1 zhd0 zhd1 HQ HR1 HK1
        go_wp2_with fail
        clear hf1 hc1
        have HR3 : Hid (Row (wq.setCell ⟨g, 1, none⟩ (.int .i64 ((j : Int) + 1))) g (curV s (j + 1))) := by
          have h := HR2.out.set 1 (.int .i64 ((j : Int) + 1))
          rw [cur_set s j (j + 1) (by omega)] at h
          exact h
        have HK3 := Lib.hid (keep_set HK2.out (.int .i64 ((j : Int) + 1)) (j := 1))
        refine (HU.out _ HR3.out).mono ?_
        rintro e W2 ⟨rfl, hb⟩
        have HR4 := Lib.hid (HR3.out.below hb HR3.out.lt)
        have HK4 := Lib.hid (keeps_then' HK3.out hb)
        have hc1 : W2.cell? ⟨g, 1, none⟩ = some (.int .i64 ((j + 1 : Nat) : Int)) := HR4.out.cell (j := 1) rfl
        have hf1 : W2.frozen? ⟨g, 1, none⟩ = false := HR4.out.frozen (j := 1) (by simp [curV])
        clear hb
        dsimp only
        go_wp2_with fail
        go_ret2
        exact ⟨rfl, keep_set HK4.out _⟩
    · rw [if_neg hq] at hv
      have hqb : ((strB [s[j]]).toList == ([34] : Str)) = false := by
        rw [toList_strB, beq_eq_false_iff_ne]
        exact fun h => hq (.inl (List.cons.inj h).1)
      have hqc : ((strB [s[j]]).toList == ([39] : Str)) = false := by
        rw [toList_strB, beq_eq_false_iff_ne]
        exact fun h => hq (.inr (List.cons.inj h).1)
      have HU := Lib.hid (fun u hu' => until_no s ⟨#[9, 10, 12, 32, 62]⟩ g j u hu' (by omega) hs (by decide) (ascii_of (l := signV) (by decide)) (by decide) (by rw [ByteArray.toList_eq, list_at s j hjs2]; exact hv))
      clear hv hq
      go_enter Tryz.func110, Tryz.ntmps110
      go_wp2_with fail
      refine HSP.out.mono ?_
      rintro e W1 ⟨rfl, hrr, hk⟩
      have hc0 : W1.cell? ⟨g, 0, none⟩ = some (.string s) := hrr.cell (j := 0) rfl
      have hc1 : W1.cell? ⟨g, 1, none⟩ = some (.int .i64 j) := hrr.cell (j := 1) rfl
      have HR := Lib.hid hrr
      have HK := Lib.hid hk
      clear hrr hk
      dsimp only
      go_wp2_with fail
      refine wp_region_calm (by kernel_rfl) (by kernel_rfl) ?_
      repeat
        with_reducible refine wpQuiet_step (fun K hK => ?_)
        first
          | (with_reducible apply calm_skip
             · rfl
             simp only [Act.put, List.setIfInBounds_toArray, List.set_cons_zero, List.set_cons_succ]
             refine hK _ ?_
             clear hK K)
          | (with_reducible apply calm_run
             · rfl
             · intro wq hC
               have zhc0 := cell_later hC.out hc0
               have zhc1 := cell_later hC.out hc1
               unfold Oper.quietAt
               go_simp
               first | done | with_reducible rfl | rfl
             simp only [Act.put, List.setIfInBounds_toArray, List.set_cons_zero, List.set_cons_succ]
             refine hK _ ?_
             clear hK K)
      with_reducible refine wpQuiet_nil ?_
      intro wq HQ
      have zhc0 := cell_later HQ.out hc0
      have zhc1 := cell_later HQ.out hc1
      have HR1 := Lib.hid (HR.out.below HQ.out HR.out.lt)
      have HK1 := Lib.hid (keeps_then' HK.out HQ.out)
      have hd0 := zhc0
      have hd1 := zhc1
      clear hc0 hc1 zhc0 zhc1 HQ HR HK
      go_wp2_with fail
      refine wp_region_calm (by kernel_rfl) (by kernel_rfl) ?_
      repeat
        with_reducible refine wpQuiet_step (fun K hK => ?_)
        first
          | (with_reducible apply calm_skip
             · rfl
             simp only [Act.put, List.setIfInBounds_toArray, List.set_cons_zero, List.set_cons_succ]
             refine hK _ ?_
             clear hK K)
          | (with_reducible apply calm_run
             · rfl
             · intro wq hC
               have zhd0 := cell_later hC.out hd0
               have zhd1 := cell_later hC.out hd1
               unfold Oper.quietAt
               go_simp
               first | done | with_reducible rfl | rfl
             simp only [Act.put, List.setIfInBounds_toArray, List.set_cons_zero, List.set_cons_succ]
             refine hK _ ?_
             clear hK K)
      with_reducible refine wpQuiet_nil ?_
      intro wq HQ
      have zhd0 := cell_later HQ.out hd0
      have zhd1 := cell_later HQ.out hd1
      have HR2 := Lib.hid (HR1.out.below HQ.out HR1.out.lt)
      have HK2 := Lib.hid (keeps_then' HK1.out HQ.out)
      have hf1 : wq.frozen? ⟨g, 1, none⟩ = false := HR2.out.frozen (j := 1) (by simp [curV])
      have hc1 := zhd1
      clear hd0 hd1 zhd0 zhd1 HQ HR1 HK1
      go_wp2_with fail
      clear hf1 hc1
      refine (HU.out _ HR2.out).mono ?_
      rintro e W2 ⟨rfl, hb⟩
      have HK4 := Lib.hid (keeps_then' HK2.out hb)
      clear hb
      dsimp only
      go_wp2_with fail
      go_ret2
      exact ⟨rfl, HK4.out⟩

set_option maxRecDepth 100000 in
set_option maxHeartbeats 4000000 in
theorem value_yes (s : ByteArray) (g i : Nat) (v r : Str) (w : World) (hr : Row w g (curV s i)) (hi : i ≤ s.size) (hs : s.size ≤ 4294967280) (hv : valueF (s.toList.drop i) = some (v, r)) :
    Calls Tryz.prog 110 #[.pointer (some ⟨g, 0, none⟩)] w fun e w' => e = .returned (.tuple #[.string (strB v), .bool true]) ∧ Row w' g (curV s (s.size - r.length)) ∧ Keeps (Only g) w w' := by
  obtain ⟨n, hn, hd, h4, h5⟩ := spaces_drop s i hi
  unfold valueF at hv
  rw [hd] at hv
  obtain ⟨j, hj⟩ : ∃ j, j = i + n := ⟨_, rfl⟩
  have HSP := Lib.hid (spaces_any s g i n w hr hn hs h4 h5)
  rw [← hj] at HSP hv hn
  clear hr h4 h5 hd hj
  have hjs2 : j < s.size := by
    rcases Nat.lt_or_ge j s.size with h | h
    · exact h
    · rw [List.drop_of_length_le (by rw [size_toList]; exact h)] at hv
      cases hv
  have hjs3 : ((j : Int) == (s.size : Int)) = false := by rw [beq_eq_false_iff_ne]; omega
  rw [list_at s j hjs2] at hv
  simp only at hv
  have e1 : s.extract j (j + 1) = strB [s[j]] := by rw [ext_mid, list_at s j hjs2]; rfl
  have hle1 : (j : Int) + 1 ≤ (s.size : Int) := by omega
  have hle2 : (0 : Int) ≤ (j : Int) + 1 := by omega
  have hle3 : (j : Int) ≤ (j : Int) + 1 := by omega
  have hwr : IntKind.i64.wrap ((j : Int) + 1) = (j : Int) + 1 := wrap_small _ (by omega) (by omega)
  have htn : ((j : Int) + 1).toNat = j + 1 := by omega
  have hj0 : (0 : Int) ≤ (j : Int) := by omega
  by_cases hq : s[j] = 34 ∨ s[j] = 39
  · rw [if_pos hq] at hv
    rcases until_cases [s[j]] (s.toList.drop (j + 1)) with ⟨h, _⟩ | ⟨k, hk, hu, _⟩
    · rw [h] at hv; cases hv
    rw [hu] at hv
    simp only [Option.map_some, Option.some.injEq, Prod.mk.injEq] at hv
    obtain ⟨hv1, hv2⟩ := hv
    rw [List.length_drop, size_toList] at hk
    have hr2 : s.size - r.length = j + 1 + k + 1 := by
      have := congrArg List.length hv2
      rw [List.length_drop, List.length_drop, List.length_drop, size_toList] at this
      omega
    rw [List.drop_drop] at hu
    have hqb : ((strB [s[j]]).toList == ([34] : Str)) = true ∨ (((strB [s[j]]).toList == ([34] : Str)) = false ∧ ((strB [s[j]]).toList == ([39] : Str)) = true) := by
      rw [toList_strB]
      rcases hq with h | h <;> rw [h]
      · exact .inl rfl
      · exact .inr ⟨rfl, rfl⟩
    have hqa : Ascii (strB [s[j]]) := ascii_of fun c hc => by
      obtain rfl := List.mem_singleton.1 hc
      rcases hq with h | h <;> rw [h] <;> decide
    have HU := Lib.hid (fun u hu' => until_yes s (strB [s[j]]) g (j + 1) k u hu' (by omega) hs (by rw [strB_size]; exact Nat.le_refl 1) hqa (by rw [strB_size]; simp) (by rw [toList_strB]; exact hu))
    rw [hv1] at HU
    have HR5 := Lib.hid hr2
    clear hv1 hv2 hq hu hqa hr2
    rcases hqb with hqb | ⟨hqb, hqc⟩
    all_goals
      go_enter Tryz.func110, Tryz.ntmps110
      go_wp2_with fail
      refine HSP.out.mono ?_
      rintro e W1 ⟨rfl, hrr, hk⟩
      have hc0 : W1.cell? ⟨g, 0, none⟩ = some (.string s) := hrr.cell (j := 0) rfl
      have hc1 : W1.cell? ⟨g, 1, none⟩ = some (.int .i64 j) := hrr.cell (j := 1) rfl
      have HR := Lib.hid hrr
      have HK := Lib.hid hk
      clear hrr hk
      dsimp only
      go_wp2_with fail
      refine wp_region_calm (by kernel_rfl) (by kernel_rfl) ?_
      repeat
        with_reducible refine wpQuiet_step (fun K hK => ?_)
        first
          | (with_reducible apply calm_skip
             · rfl
             simp only [Act.put, List.setIfInBounds_toArray, List.set_cons_zero, List.set_cons_succ]
             refine hK _ ?_
             clear hK K)
          | (with_reducible apply calm_run
             · rfl
             · intro wq hC
               have zhc0 := cell_later hC.out hc0
               have zhc1 := cell_later hC.out hc1
               unfold Oper.quietAt
               go_simp
               first | done | with_reducible rfl | rfl
             simp only [Act.put, List.setIfInBounds_toArray, List.set_cons_zero, List.set_cons_succ]
             refine hK _ ?_
             clear hK K)
      with_reducible refine wpQuiet_nil ?_
      intro wq HQ
      have zhc0 := cell_later HQ.out hc0
      have zhc1 := cell_later HQ.out hc1
      have HR1 := Lib.hid (HR.out.below HQ.out HR.out.lt)
      have HK1 := Lib.hid (keeps_then' HK.out HQ.out)
      have hd0 := zhc0
      have hd1 := zhc1
      clear hc0 hc1 zhc0 zhc1 HQ HR HK
      go_wp2_with fail
      refine wp_region_calm (by kernel_rfl) (by kernel_rfl) ?_
      repeat
        with_reducible refine wpQuiet_step (fun K hK => ?_)
        first
          | (with_reducible apply calm_skip
             · rfl
             simp only [Act.put, List.setIfInBounds_toArray, List.set_cons_zero, List.set_cons_succ]
             refine hK _ ?_
             clear hK K)
          | (with_reducible apply calm_run
             · rfl
             · intro wq hC
               have zhd0 := cell_later hC.out hd0
               have zhd1 := cell_later hC.out hd1
               unfold Oper.quietAt
               go_simp
               first | done | with_reducible rfl | rfl
             simp only [Act.put, List.setIfInBounds_toArray, List.set_cons_zero, List.set_cons_succ]
             refine hK _ ?_
             clear hK K)
      with_reducible refine wpQuiet_nil ?_
      intro wq HQ
      have zhd0 := cell_later HQ.out hd0
      have zhd1 := cell_later HQ.out hd1
      have HR2 := Lib.hid (HR1.out.below HQ.out HR1.out.lt)
      have HK2 := Lib.hid (keeps_then' HK1.out HQ.out)
      have hf1 : wq.frozen? ⟨g, 1, none⟩ = false := HR2.out.frozen (j := 1) (by simp [curV])
      have hc1 := zhd1
      clear hd0 hd1 zhd0 zhd1 HQ HR1 HK1
      go_wp2_with fail
      clear hf1 hc1
      have HR3 : Hid (Row (wq.setCell ⟨g, 1, none⟩ (.int .i64 ((j : Int) + 1))) g (curV s (j + 1))) := by
        have h := HR2.out.set 1 (.int .i64 ((j : Int) + 1))
        rw [cur_set s j (j + 1) (by omega)] at h
        exact h
      have HK3 := Lib.hid (keep_set HK2.out (.int .i64 ((j : Int) + 1)) (j := 1))
      refine (HU.out _ HR3.out).mono ?_
      rintro e W2 ⟨rfl, hrr, hkk⟩
      have HR4 := Lib.hid hrr
      have HK4 := Lib.hid (HK3.out.trans hkk)
      have hc1 : W2.cell? ⟨g, 1, none⟩ = some (.int .i64 ((j + 1 + k : Nat) : Int)) := HR4.out.cell (j := 1) rfl
      have hf1 : W2.frozen? ⟨g, 1, none⟩ = false := HR4.out.frozen (j := 1) (by simp [curV])
      clear hrr hkk
      obtain ⟨q, hq⟩ : ∃ q, q = j + 1 + k := ⟨_, rfl⟩
      rw [← hq] at HR4 HR5 hc1
      have hq2 : q ≤ s.size := by omega
      clear hq
      dsimp only
      go_wp2_with fail
      go_ret2
      refine ⟨rfl, ?_, keep_set HK4.out _⟩
      rw [HR5.out, ← cur_set s q (q + 1) (z := (q : Int) + 1) (by omega)]
      exact HR4.out.set 1 _
  · rw [if_neg hq] at hv
    rw [← list_at s j hjs2] at hv
    rcases until_cases signV (s.toList.drop j) with ⟨h, _⟩ | ⟨k, hk, hu, _⟩
    · rw [h] at hv; cases hv
    rw [hu] at hv
    simp only [Option.some.injEq, Prod.mk.injEq] at hv
    obtain ⟨hv1, hv2⟩ := hv
    rw [List.length_drop, size_toList] at hk
    have hr2 : s.size - r.length = j + k := by
      have := congrArg List.length hv2
      rw [List.length_drop, List.length_drop, size_toList] at this
      omega
    rw [List.drop_drop] at hu
    have hqb : ((strB [s[j]]).toList == ([34] : Str)) = false := by
      rw [toList_strB, beq_eq_false_iff_ne]
      exact fun h => hq (.inl (List.cons.inj h).1)
    have hqc : ((strB [s[j]]).toList == ([39] : Str)) = false := by
      rw [toList_strB, beq_eq_false_iff_ne]
      exact fun h => hq (.inr (List.cons.inj h).1)
    have HU := Lib.hid (fun u hu' => until_yes s ⟨#[9, 10, 12, 32, 62]⟩ g j k u hu' (by omega) hs (by decide) (ascii_of (l := signV) (by decide)) (by decide) (by rw [ByteArray.toList_eq]; exact hu))
    rw [hv1] at HU
    have HR5 := Lib.hid hr2
    clear hv1 hv2 hq hu hr2
    go_enter Tryz.func110, Tryz.ntmps110
    go_wp2_with fail
    refine HSP.out.mono ?_
    rintro e W1 ⟨rfl, hrr, hk⟩
    have hc0 : W1.cell? ⟨g, 0, none⟩ = some (.string s) := hrr.cell (j := 0) rfl
    have hc1 : W1.cell? ⟨g, 1, none⟩ = some (.int .i64 j) := hrr.cell (j := 1) rfl
    have HR := Lib.hid hrr
    have HK := Lib.hid hk
    clear hrr hk
    dsimp only
    go_wp2_with fail
    refine wp_region_calm (by kernel_rfl) (by kernel_rfl) ?_
    repeat
      with_reducible refine wpQuiet_step (fun K hK => ?_)
      first
        | (with_reducible apply calm_skip
           · rfl
           simp only [Act.put, List.setIfInBounds_toArray, List.set_cons_zero, List.set_cons_succ]
           refine hK _ ?_
           clear hK K)
        | (with_reducible apply calm_run
           · rfl
           · intro wq hC
             have zhc0 := cell_later hC.out hc0
             have zhc1 := cell_later hC.out hc1
             unfold Oper.quietAt
             go_simp
             first | done | with_reducible rfl | rfl
           simp only [Act.put, List.setIfInBounds_toArray, List.set_cons_zero, List.set_cons_succ]
           refine hK _ ?_
           clear hK K)
    with_reducible refine wpQuiet_nil ?_
    intro wq HQ
    have zhc0 := cell_later HQ.out hc0
    have zhc1 := cell_later HQ.out hc1
    have HR1 := Lib.hid (HR.out.below HQ.out HR.out.lt)
    have HK1 := Lib.hid (keeps_then' HK.out HQ.out)
    have hd0 := zhc0
    have hd1 := zhc1
    clear hc0 hc1 zhc0 zhc1 HQ HR HK
    go_wp2_with fail
    refine wp_region_calm (by kernel_rfl) (by kernel_rfl) ?_
    repeat
      with_reducible refine wpQuiet_step (fun K hK => ?_)
      first
        | (with_reducible apply calm_skip
           · rfl
           simp only [Act.put, List.setIfInBounds_toArray, List.set_cons_zero, List.set_cons_succ]
           refine hK _ ?_
           clear hK K)
        | (with_reducible apply calm_run
           · rfl
           · intro wq hC
             have zhd0 := cell_later hC.out hd0
             have zhd1 := cell_later hC.out hd1
             unfold Oper.quietAt
             go_simp
             first | done | with_reducible rfl | rfl
           simp only [Act.put, List.setIfInBounds_toArray, List.set_cons_zero, List.set_cons_succ]
           refine hK _ ?_
           clear hK K)
    with_reducible refine wpQuiet_nil ?_
    intro wq HQ
    have zhd0 := cell_later HQ.out hd0
    have zhd1 := cell_later HQ.out hd1
    have HR2 := Lib.hid (HR1.out.below HQ.out HR1.out.lt)
    have HK2 := Lib.hid (keeps_then' HK1.out HQ.out)
    have hf1 : wq.frozen? ⟨g, 1, none⟩ = false := HR2.out.frozen (j := 1) (by simp [curV])
    have hc1 := zhd1
    clear hd0 hd1 zhd0 zhd1 HQ HR1 HK1
    go_wp2_with fail
    clear hf1 hc1
    refine (HU.out _ HR2.out).mono ?_
    rintro e W2 ⟨rfl, hrr, hkk⟩
    have HR4 := Lib.hid hrr
    have HK4 := Lib.hid (HK2.out.trans hkk)
    clear hrr hkk
    dsimp only
    go_wp2_with fail
    go_ret2
    exact ⟨rfl, by rw [HR5.out]; exact HR4.out, HK4.out⟩
end Go.Proofs.YtbabcohidpcjjaaGreat

/-
  Contract: marks' cursor: attr: an attribute.
-/
namespace Go.Proofs.YtbabcohidpcjjaaGreat
open Go.RowKit Mem

theorem attr_info : (Tryz.prog.info? 56).map (·.size) = some 2 := by kernel_rfl
theorem results_attr {P : Program} {fn : Func} {p t : Tmp} {ty : TypeId} (h : fn.results = #[.cell p ty, .tmp t]) (tmps : Array Value) (w : World) (g : Nat) (e : TypeId) (cs : Array Value) (fr : Nat × Nat) (d : TypeDesc)
    (hp : tmps.getD p undef = .pointer (some ⟨g, 0, none⟩)) (hg : w.heap[g]? = some (.cells cs e fr))
    (hu : P.underlying ty = some d) (hd : (match d with | .struct _ | .array _ _ => true | _ => false) = true) (hi : (P.info? ty).map (·.size) = some cs.size) :
    (results fn tmps).run P w = .ok (.tuple #[.agg cs, tmps.getD t undef]) w := by
  have hp' : tmps[p]?.getD undef = .pointer (some ⟨g, 0, none⟩) := by simpa using hp
  simp [results, h, hp', asAddr, run_loadVar_row w g e ty cs fr d hg hu hd hi, Result.andThen]
def zeroAttr : Array Value := #[.string ⟨#[]⟩, .string ⟨#[]⟩]
theorem two_cells {W : World} {g : Nat} {e : TypeId} {a b : ByteArray} (h : W.heap[g]? = some (.cells #[.string a, .string b] e (0, 0))) :
    (W.cell? ⟨g, 0, none⟩ = some (.string a) ∧ W.cell? ⟨g, 1, none⟩ = some (.string b)) ∧ (W.frozen? ⟨g, 0, none⟩ = false ∧ W.frozen? ⟨g, 1, none⟩ = false) := by
  refine ⟨⟨?_, ?_⟩, ?_, ?_⟩ <;> simp [World.cell?, World.frozen?, h]
abbrev put2 (W : World) (g : Nat) (v0 v1 : Value) : World := (W.setCell ⟨g, 0, none⟩ v0).setCell ⟨g, 1, none⟩ v1
theorem put2_at {W : World} {g : Nat} {e : TypeId} {a b : ByteArray} (h : W.heap[g]? = some (.cells #[.string a, .string b] e (0, 0))) (v0 v1 : Value) : (put2 W g v0 v1).heap[g]? = some (.cells #[v0, v1] e (0, 0)) := by
  simp [put2, World.setCell, Array.getElem?_modify, h]
theorem put2_keeps {F : Nat → Prop} {a W : World} (h : Keeps F a W) {g : Nat} (hg : a.heap.size ≤ g) (v0 v1 : Value) : Keeps F a (put2 W g v0 v1) := (h.set (.inr hg) _).set (.inr hg) _
theorem put2_row {W : World} {g k : Nat} {xs : List Value} (h : Row W k xs) (hg : k ≠ g) (v0 v1 : Value) : Row (put2 W g v0 v1) k xs :=
  h.kept (by unfold put2; rw [heap_setCell_other _ _ _ _ hg, heap_setCell_other _ _ _ _ hg])

set_option maxRecDepth 100000 in
set_option maxHeartbeats 4000000 in
theorem attr_cut (s : ByteArray) (g i : Nat) (w : World) (hr : Row w g (curV s i)) (hi : i < s.size) (hs : s.size ≤ 4294967280) (hu : untilF signA (s.toList.drop (i + 1)) = none) :
    Calls Tryz.prog 95 #[.pointer (some ⟨g, 0, none⟩)] w fun e w' => (∃ a1 a2, e = .returned (.tuple #[.agg #[.string a1, .string a2], .bool false])) ∧ Keeps (Only g) w w' := by
  have hgw := hr.lt
  have HU := Lib.hid (fun u hu' => until_no s ⟨#[9, 10, 12, 32, 47, 62, 61]⟩ g (i + 1) u hu' (by omega) hs (by decide) (ascii_of (l := signA) (by decide)) (by decide) (by rw [ByteArray.toList_eq]; exact hu))
  clear hu
  obtain ⟨wa, hwa⟩ : ∃ wa, wa = w.alloc (.cells #[.string ⟨#[]⟩, .string ⟨#[]⟩] 56) := ⟨_, rfl⟩
  have HRa := Lib.hid (show Row wa g (curV s i) from hwa ▸ hr.kept (heap_alloc_old w (.cells #[.string ⟨#[]⟩, .string ⟨#[]⟩] 56) hgw))
  have HZa := Lib.hid (show wa.heap[w.heap.size]? = some (.cells #[.string ⟨#[]⟩, .string ⟨#[]⟩] 56 (0, 0)) from hwa ▸ heap_alloc_new _ _)
  have HKa := Lib.hid (show Keeps (Only g) w wa from hwa ▸ (Keeps.refl (Only g) w).alloc _)
  have hza : w.heap.size < wa.heap.size := by rw [hwa]; simp
  have HWA := Lib.hid hwa
  clear hwa
  have hne : w.heap.size ≠ g := by omega
  have e1 : s.extract i (i + 1) = strB [s[i]] := by rw [ext_mid, list_at s i hi]; rfl
  have hle1 : (i : Int) + 1 ≤ (s.size : Int) := by omega
  have hle2 : (0 : Int) ≤ (i : Int) + 1 := by omega
  have hle3 : (i : Int) ≤ (i : Int) + 1 := by omega
  have hwr : IntKind.i64.wrap ((i : Int) + 1) = (i : Int) + 1 := wrap_small _ (by omega) (by omega)
  have htn : ((i : Int) + 1).toNat = i + 1 := by omega
  have hj0 : (0 : Int) ≤ (i : Int) := by omega
  have hc0 : wa.cell? ⟨g, 0, none⟩ = some (.string s) := HRa.out.cell (j := 0) rfl
  have hc1 : wa.cell? ⟨g, 1, none⟩ = some (.int .i64 i) := HRa.out.cell (j := 1) rfl
  clear hr
  go_enter Tryz.func95, Tryz.ntmps95
  go_wp2_with fail
  rw [← HWA.out]
  refine wp_region_calm (by kernel_rfl) (by kernel_rfl) ?_
  repeat
    with_reducible refine wpQuiet_step (fun K hK => ?_)
    first
      | (with_reducible apply calm_skip
         · rfl
         simp only [Act.put, List.setIfInBounds_toArray, List.set_cons_zero, List.set_cons_succ]
         refine hK _ ?_
         clear hK K)
      | (with_reducible apply calm_run
         · rfl
         · intro wq hC
           have zhc0 := cell_later hC.out hc0
           have zhc1 := cell_later hC.out hc1
           unfold Oper.quietAt
           go_simp
           first | done | with_reducible rfl | rfl
         simp only [Act.put, List.setIfInBounds_toArray, List.set_cons_zero, List.set_cons_succ]
         refine hK _ ?_
         clear hK K)
  with_reducible refine wpQuiet_nil ?_
  intro wq HQ
  have zhc0 := cell_later HQ.out hc0
  have zhc1 := cell_later HQ.out hc1
  have HR2 := Lib.hid (HRa.out.below HQ.out HRa.out.lt)
  have HK2 := Lib.hid (keeps_then' HKa.out HQ.out)
  have HZ2 := Lib.hid (zero_below HZa.out HQ.out hza)
  have hz2 := Nat.lt_of_lt_of_le hza HQ.out.size
  have hf1 : wq.frozen? ⟨g, 1, none⟩ = false := HR2.out.frozen (j := 1) (by simp [curV])
  have hc2 := zhc1
  clear hc0 hc1 zhc0 zhc1 HQ HRa HKa HZa hza
  go_wp2_with fail
  clear hf1 hc2
  have HR3 : Hid (Row (wq.setCell ⟨g, 1, none⟩ (.int .i64 ((i : Int) + 1))) g (curV s (i + 1))) := by
    have h := HR2.out.set 1 (.int .i64 ((i : Int) + 1))
    rw [cur_set s i (i + 1) (by omega)] at h
    exact h
  have HK3 := Lib.hid (keep_set HK2.out (.int .i64 ((i : Int) + 1)) (j := 1))
  have HZ3 := Lib.hid (res_set (j := 1) (v := .int .i64 ((i : Int) + 1)) HZ2.out hne)
  have hz3 : w.heap.size < (wq.setCell ⟨g, 1, none⟩ (.int .i64 ((i : Int) + 1))).heap.size := by rw [World.size_setCell]; exact hz2
  refine (HU.out _ HR3.out).mono ?_
  rintro e W2 ⟨rfl, hb⟩
  have HZ4 := Lib.hid (zero_below HZ3.out hb hz3)
  have HK4 := Lib.hid (keeps_then' HK3.out hb)
  obtain ⟨⟨q0, q1⟩, f0, f1⟩ := two_cells HZ4.out
  clear hb
  dsimp only
  go_wp2_with fail
  refine bodyPost_ret (results_attr rfl _ _ w.heap.size _ _ _ _ rfl (put2_at HZ4.out _ _) Tryz.underlying56 rfl attr_info) rfl ?_
  exact ⟨⟨_, _, rfl⟩, put2_keeps HK4.out (Nat.le_refl _) _ _⟩
set_option maxRecDepth 100000 in
set_option maxHeartbeats 4000000 in
theorem attr_open (s : ByteArray) (g i k n j : Nat) (w : World) (hr : Row w g (curV s i)) (hi : i < s.size) (hs : s.size ≤ 4294967280) (hk : i + 1 + k < s.size) (hu : untilF signA (s.toList.drop (i + 1)) = some ((s.toList.drop (i + 1)).take k, s.toList.drop (i + 1 + k)))
    (hj : j = i + 1 + k + n) (hn : j = s.size) (h4 : ∀ c ∈ (s.toList.drop (i + 1 + k)).take n, spaceB c = true) :
    Calls Tryz.prog 95 #[.pointer (some ⟨g, 0, none⟩)] w fun e w' => (∃ a1 a2, e = .returned (.tuple #[.agg #[.string a1, .string a2], .bool false])) ∧ Keeps (Only g) w w' := by
  have HSP := Lib.hid (fun u hu' => spaces_any s g (i + 1 + k) n u hu' (by omega) hs h4 (fun c r h => by rw [← hj, hn, List.drop_of_length_le (by rw [size_toList]; exact Nat.le_refl _)] at h; cases h))
  have hgw := hr.lt
  have HU := Lib.hid (fun u hu' => until_yes s ⟨#[9, 10, 12, 32, 47, 62, 61]⟩ g (i + 1) k u hu' hk hs (by decide) (ascii_of (l := signA) (by decide)) (by decide) (by rw [ByteArray.toList_eq]; exact hu))
  obtain ⟨t, ht⟩ : ∃ t, t = (s.toList.drop (i + 1)).take k := ⟨_, rfl⟩
  have htl : t.length ≤ s.size := by rw [ht, List.length_take, List.length_drop, size_toList]; omega
  rw [← ht] at HU
  have hcat : strB [s[i]] ++ strB t = strB (s[i] :: t) := rfl
  have hlen : ¬ 9223372036854775807 < (strB [s[i]]).size + (strB t).size := by rw [strB_size, strB_size]; simp only [List.length_cons, List.length_nil]; omega
  have HSM := Lib.hid (fun u => small_any (strB (s[i] :: t)) u (by rw [strB_size, List.length_cons]; unfold maxLen; omega))
  rw [toList_strB] at HSM
  clear hu h4 ht
  obtain ⟨wa, hwa⟩ : ∃ wa, wa = w.alloc (.cells #[.string ⟨#[]⟩, .string ⟨#[]⟩] 56) := ⟨_, rfl⟩
  have HRa := Lib.hid (show Row wa g (curV s i) from hwa ▸ hr.kept (heap_alloc_old w (.cells #[.string ⟨#[]⟩, .string ⟨#[]⟩] 56) hgw))
  have HZa := Lib.hid (show wa.heap[w.heap.size]? = some (.cells #[.string ⟨#[]⟩, .string ⟨#[]⟩] 56 (0, 0)) from hwa ▸ heap_alloc_new _ _)
  have HKa := Lib.hid (show Keeps (Only g) w wa from hwa ▸ (Keeps.refl (Only g) w).alloc _)
  have hza : w.heap.size < wa.heap.size := by rw [hwa]; simp
  have HWA := Lib.hid hwa
  clear hwa
  have hne : w.heap.size ≠ g := by omega
  have e1 : s.extract i (i + 1) = strB [s[i]] := by rw [ext_mid, list_at s i hi]; rfl
  have hle1 : (i : Int) + 1 ≤ (s.size : Int) := by omega
  have hle2 : (0 : Int) ≤ (i : Int) + 1 := by omega
  have hle3 : (i : Int) ≤ (i : Int) + 1 := by omega
  have hwr : IntKind.i64.wrap ((i : Int) + 1) = (i : Int) + 1 := wrap_small _ (by omega) (by omega)
  have htn : ((i : Int) + 1).toNat = i + 1 := by omega
  have hj0 : (0 : Int) ≤ (i : Int) := by omega
  have hc0 : wa.cell? ⟨g, 0, none⟩ = some (.string s) := HRa.out.cell (j := 0) rfl
  have hc1 : wa.cell? ⟨g, 1, none⟩ = some (.int .i64 i) := HRa.out.cell (j := 1) rfl
  clear hr
  go_enter Tryz.func95, Tryz.ntmps95
  go_wp2_with fail
  rw [← HWA.out]
  refine wp_region_calm (by kernel_rfl) (by kernel_rfl) ?_
  repeat
    with_reducible refine wpQuiet_step (fun K hK => ?_)
    first
      | (with_reducible apply calm_skip
         · rfl
         simp only [Act.put, List.setIfInBounds_toArray, List.set_cons_zero, List.set_cons_succ]
         refine hK _ ?_
         clear hK K)
      | (with_reducible apply calm_run
         · rfl
         · intro wq hC
           have zhc0 := cell_later hC.out hc0
           have zhc1 := cell_later hC.out hc1
           unfold Oper.quietAt
           go_simp
           first | done | with_reducible rfl | rfl
         simp only [Act.put, List.setIfInBounds_toArray, List.set_cons_zero, List.set_cons_succ]
         refine hK _ ?_
         clear hK K)
  with_reducible refine wpQuiet_nil ?_
  intro wq HQ
  have zhc0 := cell_later HQ.out hc0
  have zhc1 := cell_later HQ.out hc1
  have HR2 := Lib.hid (HRa.out.below HQ.out HRa.out.lt)
  have HK2 := Lib.hid (keeps_then' HKa.out HQ.out)
  have HZ2 := Lib.hid (zero_below HZa.out HQ.out hza)
  have hz2 := Nat.lt_of_lt_of_le hza HQ.out.size
  have hf1 : wq.frozen? ⟨g, 1, none⟩ = false := HR2.out.frozen (j := 1) (by simp [curV])
  have hc2 := zhc1
  clear hc0 hc1 zhc0 zhc1 HQ HRa HKa HZa hza
  go_wp2_with fail
  clear hf1 hc2
  have HR3 : Hid (Row (wq.setCell ⟨g, 1, none⟩ (.int .i64 ((i : Int) + 1))) g (curV s (i + 1))) := by
    have h := HR2.out.set 1 (.int .i64 ((i : Int) + 1))
    rw [cur_set s i (i + 1) (by omega)] at h
    exact h
  have HK3 := Lib.hid (keep_set HK2.out (.int .i64 ((i : Int) + 1)) (j := 1))
  have HZ3 := Lib.hid (res_set (j := 1) (v := .int .i64 ((i : Int) + 1)) HZ2.out hne)
  have hz3 : w.heap.size < (wq.setCell ⟨g, 1, none⟩ (.int .i64 ((i : Int) + 1))).heap.size := by rw [World.size_setCell]; exact hz2
  refine (HU.out _ HR3.out).mono ?_
  rintro e W2 ⟨rfl, hrr, hkk⟩
  have HR4 := Lib.hid hrr
  have HK4 := Lib.hid (HK3.out.trans hkk)
  have HZ4 := Lib.hid (only_zero HZ3.out hkk hz3 hne)
  have hz4 := Nat.lt_of_lt_of_le hz3 hkk.size
  clear hrr hkk
  dsimp only
  go_wp2_with fail
  refine (HSM.out _).mono ?_
  rintro e W3 ⟨rfl, hb⟩
  have HR5 := Lib.hid (HR4.out.below hb HR4.out.lt)
  have HK5 := Lib.hid (keeps_then' HK4.out hb)
  have HZ5 := Lib.hid (zero_below HZ4.out hb hz4)
  have hz5 := Nat.lt_of_lt_of_le hz4 hb.size
  clear hb
  dsimp only
  go_wp2_with fail
  have HR6 := Lib.hid (HR5.out.kept (heap_alloc_old W3 (.cells #[.string (strB (lowS (s[i] :: t))), .string ⟨#[]⟩] 56) HR5.out.lt))
  have HK6 := Lib.hid (HK5.out.alloc (.cells #[.string (strB (lowS (s[i] :: t))), .string ⟨#[]⟩] 56))
  have HZ6 := Lib.hid ((heap_alloc_old W3 (.cells #[.string (strB (lowS (s[i] :: t))), .string ⟨#[]⟩] 56) hz5).trans HZ5.out)
  have HA6 := Lib.hid (heap_alloc_new W3 (.cells #[.string (strB (lowS (s[i] :: t))), .string ⟨#[]⟩] 56))
  have hzz : W3.heap.size < (W3.alloc (.cells #[.string (strB (lowS (s[i] :: t))), .string ⟨#[]⟩] 56)).heap.size := by simp
  have hg5 := HR5.out.lt
  generalize W3.alloc (.cells #[.string (strB (lowS (s[i] :: t))), .string ⟨#[]⟩] 56) = W4 at *
  generalize W3.heap.size = nA at *
  have hz6 : w.heap.size < W4.heap.size := by omega
  have hneA : nA ≠ g := by omega
  have hneR : w.heap.size ≠ nA := by omega
  have hwA : w.heap.size ≤ nA := by omega
  refine (HSP.out _ HR6.out).mono ?_
  rintro e W5 ⟨rfl, hrr, hkk⟩
  have HZ7 := Lib.hid (only_zero HZ6.out hkk hz6 hne)
  have HA7 := Lib.hid (only_zero HA6.out hkk hzz hneA)
  have HK7 := Lib.hid (HK6.out.trans hkk)
  have hz7 := Nat.lt_of_lt_of_le hz6 hkk.size
  have hzA7 := Nat.lt_of_lt_of_le hzz hkk.size
  have HR7 := Lib.hid hrr
  have hc0 : W5.cell? ⟨g, 0, none⟩ = some (.string s) := HR7.out.cell (j := 0) rfl
  have hc1 : W5.cell? ⟨g, 1, none⟩ = some (.int .i64 ((i + 1 + k + n : Nat) : Int)) := HR7.out.cell (j := 1) rfl
  clear hrr hkk HR6 HK6 HZ6 HA6 hzz hg5 HR5 HK5 HZ5 hz5 hz6
  rw [← hj] at HR7 hc1
  clear hj
  first
    | (have hjb : ((j : Int) == (s.size : Int)) = true := by rw [beq_iff_eq]; omega)
    | (have hjb : ((j : Int) == (s.size : Int)) = false := by rw [beq_eq_false_iff_ne]; omega)
  dsimp only
  go_wp2_with fail
  refine wp_region_calm (by kernel_rfl) (by kernel_rfl) ?_
  repeat
    with_reducible refine wpQuiet_step (fun K hK => ?_)
    first
      | (with_reducible apply calm_skip
         · rfl
         simp only [Act.put, List.setIfInBounds_toArray, List.set_cons_zero, List.set_cons_succ]
         refine hK _ ?_
         clear hK K)
      | (with_reducible apply calm_run
         · rfl
         · intro wq hC
           have zhc0 := cell_later hC.out hc0
           have zhc1 := cell_later hC.out hc1
           unfold Oper.quietAt
           go_simp
           first | done | with_reducible rfl | rfl
         simp only [Act.put, List.setIfInBounds_toArray, List.set_cons_zero, List.set_cons_succ]
         refine hK _ ?_
         clear hK K)
  with_reducible refine wpQuiet_nil ?_
  intro wq HQ
  have zhc0 := cell_later HQ.out hc0
  have zhc1 := cell_later HQ.out hc1
  have HZ8 := Lib.hid (zero_below HZ7.out HQ.out hz7)
  have HA8 := Lib.hid (zero_below HA7.out HQ.out hzA7)
  have HK8 := Lib.hid (keeps_then' HK7.out HQ.out)
  have HR8 := Lib.hid (HR7.out.below HQ.out HR7.out.lt)
  have hz8 := Nat.lt_of_lt_of_le hz7 HQ.out.size
  have hzA8 := Nat.lt_of_lt_of_le hzA7 HQ.out.size
  have hd0 := zhc0
  have hd1 := zhc1
  clear hc0 hc1 zhc0 zhc1 HQ HZ7 HA7 HK7 HR7 hz7 hzA7
  obtain ⟨⟨p0, p1⟩, o0, o1⟩ := two_cells HZ8.out
  go_wp2_with fail
  clear p0 p1 o0 o1
  -- the answer goes into the result's block: HZ8 in world wq
  refine bodyPost_ret (results_attr rfl _ _ w.heap.size _ _ _ _ rfl (put2_at HZ8.out _ _) Tryz.underlying56 rfl attr_info) rfl ?_
  exact ⟨⟨_, _, rfl⟩, put2_keeps HK8.out (Nat.le_refl _) _ _⟩
set_option maxRecDepth 100000 in
set_option maxHeartbeats 4000000 in
theorem attr_bare (s : ByteArray) (g i k n j : Nat) (w : World) (hr : Row w g (curV s i)) (hi : i < s.size) (hs : s.size ≤ 4294967280) (hk : i + 1 + k < s.size) (hu : untilF signA (s.toList.drop (i + 1)) = some ((s.toList.drop (i + 1)).take k, s.toList.drop (i + 1 + k)))
    (hj : j = i + 1 + k + n) (hn : j < s.size) (h4 : ∀ c ∈ (s.toList.drop (i + 1 + k)).take n, spaceB c = true) (h5 : spaceB s[j] = false) (h61 : s[j] ≠ 61) :
    Calls Tryz.prog 95 #[.pointer (some ⟨g, 0, none⟩)] w fun e w' => e = .returned (.tuple #[.agg #[.string (strB (lowS (s[i] :: (s.toList.drop (i + 1)).take k))), .string ⟨#[]⟩], .bool true]) ∧ Row w' g (curV s j) ∧ Keeps (Only g) w w' := by
  have HSP := Lib.hid (fun u hu' => spaces_any s g (i + 1 + k) n u hu' (by omega) hs h4 (fun c r h => by rw [← hj, list_at s j hn] at h; cases h; exact h5))
  have hgw := hr.lt
  have HU := Lib.hid (fun u hu' => until_yes s ⟨#[9, 10, 12, 32, 47, 62, 61]⟩ g (i + 1) k u hu' hk hs (by decide) (ascii_of (l := signA) (by decide)) (by decide) (by rw [ByteArray.toList_eq]; exact hu))
  obtain ⟨t, ht⟩ : ∃ t, t = (s.toList.drop (i + 1)).take k := ⟨_, rfl⟩
  have htl : t.length ≤ s.size := by rw [ht, List.length_take, List.length_drop, size_toList]; omega
  rw [← ht] at HU
  have hcat : strB [s[i]] ++ strB t = strB (s[i] :: t) := rfl
  have hlen : ¬ 9223372036854775807 < (strB [s[i]]).size + (strB t).size := by rw [strB_size, strB_size]; simp only [List.length_cons, List.length_nil]; omega
  have HSM := Lib.hid (fun u => small_any (strB (s[i] :: t)) u (by rw [strB_size, List.length_cons]; unfold maxLen; omega))
  rw [toList_strB] at HSM
  rw [← ht]
  have HT := Lib.hid ht
  have h61b : ((s[j].toNat : Int) != 61) = true := by
    rw [bne, show ((61 : Int)) = (((61 : UInt8).toNat : Nat) : Int) from rfl, ← ueq]
    simpa using h61
  clear hu h4 ht h5 h61
  obtain ⟨wa, hwa⟩ : ∃ wa, wa = w.alloc (.cells #[.string ⟨#[]⟩, .string ⟨#[]⟩] 56) := ⟨_, rfl⟩
  have HRa := Lib.hid (show Row wa g (curV s i) from hwa ▸ hr.kept (heap_alloc_old w (.cells #[.string ⟨#[]⟩, .string ⟨#[]⟩] 56) hgw))
  have HZa := Lib.hid (show wa.heap[w.heap.size]? = some (.cells #[.string ⟨#[]⟩, .string ⟨#[]⟩] 56 (0, 0)) from hwa ▸ heap_alloc_new _ _)
  have HKa := Lib.hid (show Keeps (Only g) w wa from hwa ▸ (Keeps.refl (Only g) w).alloc _)
  have hza : w.heap.size < wa.heap.size := by rw [hwa]; simp
  have HWA := Lib.hid hwa
  clear hwa
  have hne : w.heap.size ≠ g := by omega
  have e1 : s.extract i (i + 1) = strB [s[i]] := by rw [ext_mid, list_at s i hi]; rfl
  have hle1 : (i : Int) + 1 ≤ (s.size : Int) := by omega
  have hle2 : (0 : Int) ≤ (i : Int) + 1 := by omega
  have hle3 : (i : Int) ≤ (i : Int) + 1 := by omega
  have hwr : IntKind.i64.wrap ((i : Int) + 1) = (i : Int) + 1 := wrap_small _ (by omega) (by omega)
  have htn : ((i : Int) + 1).toNat = i + 1 := by omega
  have hj0 : (0 : Int) ≤ (i : Int) := by omega
  have hc0 : wa.cell? ⟨g, 0, none⟩ = some (.string s) := HRa.out.cell (j := 0) rfl
  have hc1 : wa.cell? ⟨g, 1, none⟩ = some (.int .i64 i) := HRa.out.cell (j := 1) rfl
  clear hr
  go_enter Tryz.func95, Tryz.ntmps95
  go_wp2_with fail
  rw [← HWA.out]
  refine wp_region_calm (by kernel_rfl) (by kernel_rfl) ?_
  repeat
    with_reducible refine wpQuiet_step (fun K hK => ?_)
    first
      | (with_reducible apply calm_skip
         · rfl
         simp only [Act.put, List.setIfInBounds_toArray, List.set_cons_zero, List.set_cons_succ]
         refine hK _ ?_
         clear hK K)
      | (with_reducible apply calm_run
         · rfl
         · intro wq hC
           have zhc0 := cell_later hC.out hc0
           have zhc1 := cell_later hC.out hc1
           unfold Oper.quietAt
           go_simp
           first | done | with_reducible rfl | rfl
         simp only [Act.put, List.setIfInBounds_toArray, List.set_cons_zero, List.set_cons_succ]
         refine hK _ ?_
         clear hK K)
  with_reducible refine wpQuiet_nil ?_
  intro wq HQ
  have zhc0 := cell_later HQ.out hc0
  have zhc1 := cell_later HQ.out hc1
  have HR2 := Lib.hid (HRa.out.below HQ.out HRa.out.lt)
  have HK2 := Lib.hid (keeps_then' HKa.out HQ.out)
  have HZ2 := Lib.hid (zero_below HZa.out HQ.out hza)
  have hz2 := Nat.lt_of_lt_of_le hza HQ.out.size
  have hf1 : wq.frozen? ⟨g, 1, none⟩ = false := HR2.out.frozen (j := 1) (by simp [curV])
  have hc2 := zhc1
  clear hc0 hc1 zhc0 zhc1 HQ HRa HKa HZa hza
  go_wp2_with fail
  clear hf1 hc2
  have HR3 : Hid (Row (wq.setCell ⟨g, 1, none⟩ (.int .i64 ((i : Int) + 1))) g (curV s (i + 1))) := by
    have h := HR2.out.set 1 (.int .i64 ((i : Int) + 1))
    rw [cur_set s i (i + 1) (by omega)] at h
    exact h
  have HK3 := Lib.hid (keep_set HK2.out (.int .i64 ((i : Int) + 1)) (j := 1))
  have HZ3 := Lib.hid (res_set (j := 1) (v := .int .i64 ((i : Int) + 1)) HZ2.out hne)
  have hz3 : w.heap.size < (wq.setCell ⟨g, 1, none⟩ (.int .i64 ((i : Int) + 1))).heap.size := by rw [World.size_setCell]; exact hz2
  refine (HU.out _ HR3.out).mono ?_
  rintro e W2 ⟨rfl, hrr, hkk⟩
  have HR4 := Lib.hid hrr
  have HK4 := Lib.hid (HK3.out.trans hkk)
  have HZ4 := Lib.hid (only_zero HZ3.out hkk hz3 hne)
  have hz4 := Nat.lt_of_lt_of_le hz3 hkk.size
  clear hrr hkk
  dsimp only
  go_wp2_with fail
  refine (HSM.out _).mono ?_
  rintro e W3 ⟨rfl, hb⟩
  have HR5 := Lib.hid (HR4.out.below hb HR4.out.lt)
  have HK5 := Lib.hid (keeps_then' HK4.out hb)
  have HZ5 := Lib.hid (zero_below HZ4.out hb hz4)
  have hz5 := Nat.lt_of_lt_of_le hz4 hb.size
  clear hb
  dsimp only
  go_wp2_with fail
  have HR6 := Lib.hid (HR5.out.kept (heap_alloc_old W3 (.cells #[.string (strB (lowS (s[i] :: t))), .string ⟨#[]⟩] 56) HR5.out.lt))
  have HK6 := Lib.hid (HK5.out.alloc (.cells #[.string (strB (lowS (s[i] :: t))), .string ⟨#[]⟩] 56))
  have HZ6 := Lib.hid ((heap_alloc_old W3 (.cells #[.string (strB (lowS (s[i] :: t))), .string ⟨#[]⟩] 56) hz5).trans HZ5.out)
  have HA6 := Lib.hid (heap_alloc_new W3 (.cells #[.string (strB (lowS (s[i] :: t))), .string ⟨#[]⟩] 56))
  have hzz : W3.heap.size < (W3.alloc (.cells #[.string (strB (lowS (s[i] :: t))), .string ⟨#[]⟩] 56)).heap.size := by simp
  have hg5 := HR5.out.lt
  generalize W3.alloc (.cells #[.string (strB (lowS (s[i] :: t))), .string ⟨#[]⟩] 56) = W4 at *
  generalize W3.heap.size = nA at *
  have hz6 : w.heap.size < W4.heap.size := by omega
  have hneA : nA ≠ g := by omega
  have hneR : w.heap.size ≠ nA := by omega
  have hwA : w.heap.size ≤ nA := by omega
  refine (HSP.out _ HR6.out).mono ?_
  rintro e W5 ⟨rfl, hrr, hkk⟩
  have HZ7 := Lib.hid (only_zero HZ6.out hkk hz6 hne)
  have HA7 := Lib.hid (only_zero HA6.out hkk hzz hneA)
  have HK7 := Lib.hid (HK6.out.trans hkk)
  have hz7 := Nat.lt_of_lt_of_le hz6 hkk.size
  have hzA7 := Nat.lt_of_lt_of_le hzz hkk.size
  have HR7 := Lib.hid hrr
  have hc0 : W5.cell? ⟨g, 0, none⟩ = some (.string s) := HR7.out.cell (j := 0) rfl
  have hc1 : W5.cell? ⟨g, 1, none⟩ = some (.int .i64 ((i + 1 + k + n : Nat) : Int)) := HR7.out.cell (j := 1) rfl
  clear hrr hkk HR6 HK6 HZ6 HA6 hzz hg5 HR5 HK5 HZ5 hz5 hz6
  rw [← hj] at HR7 hc1
  clear hj
  first
    | (have hjb : ((j : Int) == (s.size : Int)) = true := by rw [beq_iff_eq]; omega)
    | (have hjb : ((j : Int) == (s.size : Int)) = false := by rw [beq_eq_false_iff_ne]; omega)
  dsimp only
  go_wp2_with fail
  refine wp_region_calm (by kernel_rfl) (by kernel_rfl) ?_
  repeat
    with_reducible refine wpQuiet_step (fun K hK => ?_)
    first
      | (with_reducible apply calm_skip
         · rfl
         simp only [Act.put, List.setIfInBounds_toArray, List.set_cons_zero, List.set_cons_succ]
         refine hK _ ?_
         clear hK K)
      | (with_reducible apply calm_run
         · rfl
         · intro wq hC
           have zhc0 := cell_later hC.out hc0
           have zhc1 := cell_later hC.out hc1
           unfold Oper.quietAt
           go_simp
           first | done | with_reducible rfl | rfl
         simp only [Act.put, List.setIfInBounds_toArray, List.set_cons_zero, List.set_cons_succ]
         refine hK _ ?_
         clear hK K)
  with_reducible refine wpQuiet_nil ?_
  intro wq HQ
  have zhc0 := cell_later HQ.out hc0
  have zhc1 := cell_later HQ.out hc1
  have HZ8 := Lib.hid (zero_below HZ7.out HQ.out hz7)
  have HA8 := Lib.hid (zero_below HA7.out HQ.out hzA7)
  have HK8 := Lib.hid (keeps_then' HK7.out HQ.out)
  have HR8 := Lib.hid (HR7.out.below HQ.out HR7.out.lt)
  have hz8 := Nat.lt_of_lt_of_le hz7 HQ.out.size
  have hzA8 := Nat.lt_of_lt_of_le hzA7 HQ.out.size
  have hd0 := zhc0
  have hd1 := zhc1
  clear hc0 hc1 zhc0 zhc1 HQ HZ7 HA7 HK7 HR7 hz7 hzA7
  obtain ⟨⟨p0, p1⟩, o0, o1⟩ := two_cells HZ8.out
  go_wp2_with fail
  clear p0 p1 o0 o1
  refine wp_region_calm (by kernel_rfl) (by kernel_rfl) ?_
  repeat
    with_reducible refine wpQuiet_step (fun K hK => ?_)
    first
      | (with_reducible apply calm_skip
         · rfl
         simp only [Act.put, List.setIfInBounds_toArray, List.set_cons_zero, List.set_cons_succ]
         refine hK _ ?_
         clear hK K)
      | (with_reducible apply calm_run
         · rfl
         · intro wq hC
           have zhd0 := cell_later hC.out hd0
           have zhd1 := cell_later hC.out hd1
           unfold Oper.quietAt
           go_simp
           first | done | with_reducible rfl | rfl
         simp only [Act.put, List.setIfInBounds_toArray, List.set_cons_zero, List.set_cons_succ]
         refine hK _ ?_
         clear hK K)
  with_reducible refine wpQuiet_nil ?_
  intro wq HQ
  have zhd0 := cell_later HQ.out hd0
  have zhd1 := cell_later HQ.out hd1
  have HZ9 := Lib.hid (zero_below HZ8.out HQ.out hz8)
  have HA9 := Lib.hid (zero_below HA8.out HQ.out hzA8)
  have HK9 := Lib.hid (keeps_then' HK8.out HQ.out)
  have HR9 := Lib.hid (HR8.out.below HQ.out HR8.out.lt)
  obtain ⟨⟨q0, q1⟩, f0, f1⟩ := two_cells HZ9.out
  obtain ⟨⟨a0, a1⟩, -⟩ := two_cells HA9.out
  clear hd0 hd1 HQ HZ8 HA8 HK8 HR8
  go_wp2_with fail
  refine bodyPost_ret (results_attr rfl _ _ w.heap.size _ _ _ _ rfl (put2_at HZ9.out _ _) Tryz.underlying56 rfl attr_info) rfl ?_
  exact ⟨rfl, put2_row HR9.out (fun e => hne e.symm) _ _, put2_keeps HK9.out (Nat.le_refl _) _ _⟩
set_option maxRecDepth 100000 in
set_option maxHeartbeats 4000000 in
theorem attr_none (s : ByteArray) (g i k n j : Nat) (w : World) (hr : Row w g (curV s i)) (hi : i < s.size) (hs : s.size ≤ 4294967280) (hk : i + 1 + k < s.size) (hu : untilF signA (s.toList.drop (i + 1)) = some ((s.toList.drop (i + 1)).take k, s.toList.drop (i + 1 + k)))
    (hj : j = i + 1 + k + n) (hn : j < s.size) (h4 : ∀ c ∈ (s.toList.drop (i + 1 + k)).take n, spaceB c = true) (h5 : spaceB s[j] = false) (h61 : s[j] = 61) (hv : valueF (s.toList.drop (j + 1)) = none) :
    Calls Tryz.prog 95 #[.pointer (some ⟨g, 0, none⟩)] w fun e w' => (∃ a1 a2, e = .returned (.tuple #[.agg #[.string a1, .string a2], .bool false])) ∧ Keeps (Only g) w w' := by
  have HSP := Lib.hid (fun u hu' => spaces_any s g (i + 1 + k) n u hu' (by omega) hs h4 (fun c r h => by rw [← hj, list_at s j hn] at h; cases h; exact h5))
  have HV := Lib.hid (fun u hu' => value_no s g (j + 1) u hu' (by omega) hs hv)
  have hgw := hr.lt
  have HU := Lib.hid (fun u hu' => until_yes s ⟨#[9, 10, 12, 32, 47, 62, 61]⟩ g (i + 1) k u hu' hk hs (by decide) (ascii_of (l := signA) (by decide)) (by decide) (by rw [ByteArray.toList_eq]; exact hu))
  obtain ⟨t, ht⟩ : ∃ t, t = (s.toList.drop (i + 1)).take k := ⟨_, rfl⟩
  have htl : t.length ≤ s.size := by rw [ht, List.length_take, List.length_drop, size_toList]; omega
  rw [← ht] at HU
  have hcat : strB [s[i]] ++ strB t = strB (s[i] :: t) := rfl
  have hlen : ¬ 9223372036854775807 < (strB [s[i]]).size + (strB t).size := by rw [strB_size, strB_size]; simp only [List.length_cons, List.length_nil]; omega
  have HSM := Lib.hid (fun u => small_any (strB (s[i] :: t)) u (by rw [strB_size, List.length_cons]; unfold maxLen; omega))
  rw [toList_strB] at HSM
  have h61b : ((s[j].toNat : Int) != 61) = false := by rw [h61]; decide
  clear hu h4 ht h5 h61 hv
  obtain ⟨wa, hwa⟩ : ∃ wa, wa = w.alloc (.cells #[.string ⟨#[]⟩, .string ⟨#[]⟩] 56) := ⟨_, rfl⟩
  have HRa := Lib.hid (show Row wa g (curV s i) from hwa ▸ hr.kept (heap_alloc_old w (.cells #[.string ⟨#[]⟩, .string ⟨#[]⟩] 56) hgw))
  have HZa := Lib.hid (show wa.heap[w.heap.size]? = some (.cells #[.string ⟨#[]⟩, .string ⟨#[]⟩] 56 (0, 0)) from hwa ▸ heap_alloc_new _ _)
  have HKa := Lib.hid (show Keeps (Only g) w wa from hwa ▸ (Keeps.refl (Only g) w).alloc _)
  have hza : w.heap.size < wa.heap.size := by rw [hwa]; simp
  have HWA := Lib.hid hwa
  clear hwa
  have hne : w.heap.size ≠ g := by omega
  have e1 : s.extract i (i + 1) = strB [s[i]] := by rw [ext_mid, list_at s i hi]; rfl
  have hle1 : (i : Int) + 1 ≤ (s.size : Int) := by omega
  have hle2 : (0 : Int) ≤ (i : Int) + 1 := by omega
  have hle3 : (i : Int) ≤ (i : Int) + 1 := by omega
  have hwr : IntKind.i64.wrap ((i : Int) + 1) = (i : Int) + 1 := wrap_small _ (by omega) (by omega)
  have htn : ((i : Int) + 1).toNat = i + 1 := by omega
  have hj0 : (0 : Int) ≤ (i : Int) := by omega
  have hc0 : wa.cell? ⟨g, 0, none⟩ = some (.string s) := HRa.out.cell (j := 0) rfl
  have hc1 : wa.cell? ⟨g, 1, none⟩ = some (.int .i64 i) := HRa.out.cell (j := 1) rfl
  clear hr
  go_enter Tryz.func95, Tryz.ntmps95
  go_wp2_with fail
  rw [← HWA.out]
  refine wp_region_calm (by kernel_rfl) (by kernel_rfl) ?_
  repeat
    with_reducible refine wpQuiet_step (fun K hK => ?_)
    first
      | (with_reducible apply calm_skip
         · rfl
         simp only [Act.put, List.setIfInBounds_toArray, List.set_cons_zero, List.set_cons_succ]
         refine hK _ ?_
         clear hK K)
      | (with_reducible apply calm_run
         · rfl
         · intro wq hC
           have zhc0 := cell_later hC.out hc0
           have zhc1 := cell_later hC.out hc1
           unfold Oper.quietAt
           go_simp
           first | done | with_reducible rfl | rfl
         simp only [Act.put, List.setIfInBounds_toArray, List.set_cons_zero, List.set_cons_succ]
         refine hK _ ?_
         clear hK K)
  with_reducible refine wpQuiet_nil ?_
  intro wq HQ
  have zhc0 := cell_later HQ.out hc0
  have zhc1 := cell_later HQ.out hc1
  have HR2 := Lib.hid (HRa.out.below HQ.out HRa.out.lt)
  have HK2 := Lib.hid (keeps_then' HKa.out HQ.out)
  have HZ2 := Lib.hid (zero_below HZa.out HQ.out hza)
  have hz2 := Nat.lt_of_lt_of_le hza HQ.out.size
  have hf1 : wq.frozen? ⟨g, 1, none⟩ = false := HR2.out.frozen (j := 1) (by simp [curV])
  have hc2 := zhc1
  clear hc0 hc1 zhc0 zhc1 HQ HRa HKa HZa hza
  go_wp2_with fail
  clear hf1 hc2
  have HR3 : Hid (Row (wq.setCell ⟨g, 1, none⟩ (.int .i64 ((i : Int) + 1))) g (curV s (i + 1))) := by
    have h := HR2.out.set 1 (.int .i64 ((i : Int) + 1))
    rw [cur_set s i (i + 1) (by omega)] at h
    exact h
  have HK3 := Lib.hid (keep_set HK2.out (.int .i64 ((i : Int) + 1)) (j := 1))
  have HZ3 := Lib.hid (res_set (j := 1) (v := .int .i64 ((i : Int) + 1)) HZ2.out hne)
  have hz3 : w.heap.size < (wq.setCell ⟨g, 1, none⟩ (.int .i64 ((i : Int) + 1))).heap.size := by rw [World.size_setCell]; exact hz2
  refine (HU.out _ HR3.out).mono ?_
  rintro e W2 ⟨rfl, hrr, hkk⟩
  have HR4 := Lib.hid hrr
  have HK4 := Lib.hid (HK3.out.trans hkk)
  have HZ4 := Lib.hid (only_zero HZ3.out hkk hz3 hne)
  have hz4 := Nat.lt_of_lt_of_le hz3 hkk.size
  clear hrr hkk
  dsimp only
  go_wp2_with fail
  refine (HSM.out _).mono ?_
  rintro e W3 ⟨rfl, hb⟩
  have HR5 := Lib.hid (HR4.out.below hb HR4.out.lt)
  have HK5 := Lib.hid (keeps_then' HK4.out hb)
  have HZ5 := Lib.hid (zero_below HZ4.out hb hz4)
  have hz5 := Nat.lt_of_lt_of_le hz4 hb.size
  clear hb
  dsimp only
  go_wp2_with fail
  have HR6 := Lib.hid (HR5.out.kept (heap_alloc_old W3 (.cells #[.string (strB (lowS (s[i] :: t))), .string ⟨#[]⟩] 56) HR5.out.lt))
  have HK6 := Lib.hid (HK5.out.alloc (.cells #[.string (strB (lowS (s[i] :: t))), .string ⟨#[]⟩] 56))
  have HZ6 := Lib.hid ((heap_alloc_old W3 (.cells #[.string (strB (lowS (s[i] :: t))), .string ⟨#[]⟩] 56) hz5).trans HZ5.out)
  have HA6 := Lib.hid (heap_alloc_new W3 (.cells #[.string (strB (lowS (s[i] :: t))), .string ⟨#[]⟩] 56))
  have hzz : W3.heap.size < (W3.alloc (.cells #[.string (strB (lowS (s[i] :: t))), .string ⟨#[]⟩] 56)).heap.size := by simp
  have hg5 := HR5.out.lt
  generalize W3.alloc (.cells #[.string (strB (lowS (s[i] :: t))), .string ⟨#[]⟩] 56) = W4 at *
  generalize W3.heap.size = nA at *
  have hz6 : w.heap.size < W4.heap.size := by omega
  have hneA : nA ≠ g := by omega
  have hneR : w.heap.size ≠ nA := by omega
  have hwA : w.heap.size ≤ nA := by omega
  refine (HSP.out _ HR6.out).mono ?_
  rintro e W5 ⟨rfl, hrr, hkk⟩
  have HZ7 := Lib.hid (only_zero HZ6.out hkk hz6 hne)
  have HA7 := Lib.hid (only_zero HA6.out hkk hzz hneA)
  have HK7 := Lib.hid (HK6.out.trans hkk)
  have hz7 := Nat.lt_of_lt_of_le hz6 hkk.size
  have hzA7 := Nat.lt_of_lt_of_le hzz hkk.size
  have HR7 := Lib.hid hrr
  have hc0 : W5.cell? ⟨g, 0, none⟩ = some (.string s) := HR7.out.cell (j := 0) rfl
  have hc1 : W5.cell? ⟨g, 1, none⟩ = some (.int .i64 ((i + 1 + k + n : Nat) : Int)) := HR7.out.cell (j := 1) rfl
  clear hrr hkk HR6 HK6 HZ6 HA6 hzz hg5 HR5 HK5 HZ5 hz5 hz6
  rw [← hj] at HR7 hc1
  clear hj
  first
    | (have hjb : ((j : Int) == (s.size : Int)) = true := by rw [beq_iff_eq]; omega)
    | (have hjb : ((j : Int) == (s.size : Int)) = false := by rw [beq_eq_false_iff_ne]; omega)
  dsimp only
  go_wp2_with fail
  refine wp_region_calm (by kernel_rfl) (by kernel_rfl) ?_
  repeat
    with_reducible refine wpQuiet_step (fun K hK => ?_)
    first
      | (with_reducible apply calm_skip
         · rfl
         simp only [Act.put, List.setIfInBounds_toArray, List.set_cons_zero, List.set_cons_succ]
         refine hK _ ?_
         clear hK K)
      | (with_reducible apply calm_run
         · rfl
         · intro wq hC
           have zhc0 := cell_later hC.out hc0
           have zhc1 := cell_later hC.out hc1
           unfold Oper.quietAt
           go_simp
           first | done | with_reducible rfl | rfl
         simp only [Act.put, List.setIfInBounds_toArray, List.set_cons_zero, List.set_cons_succ]
         refine hK _ ?_
         clear hK K)
  with_reducible refine wpQuiet_nil ?_
  intro wq HQ
  have zhc0 := cell_later HQ.out hc0
  have zhc1 := cell_later HQ.out hc1
  have HZ8 := Lib.hid (zero_below HZ7.out HQ.out hz7)
  have HA8 := Lib.hid (zero_below HA7.out HQ.out hzA7)
  have HK8 := Lib.hid (keeps_then' HK7.out HQ.out)
  have HR8 := Lib.hid (HR7.out.below HQ.out HR7.out.lt)
  have hz8 := Nat.lt_of_lt_of_le hz7 HQ.out.size
  have hzA8 := Nat.lt_of_lt_of_le hzA7 HQ.out.size
  have hd0 := zhc0
  have hd1 := zhc1
  clear hc0 hc1 zhc0 zhc1 HQ HZ7 HA7 HK7 HR7 hz7 hzA7
  obtain ⟨⟨p0, p1⟩, o0, o1⟩ := two_cells HZ8.out
  go_wp2_with fail
  clear p0 p1 o0 o1
  refine wp_region_calm (by kernel_rfl) (by kernel_rfl) ?_
  repeat
    with_reducible refine wpQuiet_step (fun K hK => ?_)
    first
      | (with_reducible apply calm_skip
         · rfl
         simp only [Act.put, List.setIfInBounds_toArray, List.set_cons_zero, List.set_cons_succ]
         refine hK _ ?_
         clear hK K)
      | (with_reducible apply calm_run
         · rfl
         · intro wq hC
           have zhd0 := cell_later hC.out hd0
           have zhd1 := cell_later hC.out hd1
           unfold Oper.quietAt
           go_simp
           first | done | with_reducible rfl | rfl
         simp only [Act.put, List.setIfInBounds_toArray, List.set_cons_zero, List.set_cons_succ]
         refine hK _ ?_
         clear hK K)
  with_reducible refine wpQuiet_nil ?_
  intro wq HQ
  have zhd0 := cell_later HQ.out hd0
  have zhd1 := cell_later HQ.out hd1
  have HZ9 := Lib.hid (zero_below HZ8.out HQ.out hz8)
  have HA9 := Lib.hid (zero_below HA8.out HQ.out hzA8)
  have HK9 := Lib.hid (keeps_then' HK8.out HQ.out)
  have HR9 := Lib.hid (HR8.out.below HQ.out HR8.out.lt)
  have hz9 := Nat.lt_of_lt_of_le hz8 HQ.out.size
  have hzA9 := Nat.lt_of_lt_of_le hzA8 HQ.out.size
  have hc1 := zhd1
  have hf1 : wq.frozen? ⟨g, 1, none⟩ = false := HR9.out.frozen (j := 1) (by simp [curV])
  clear hd0 hd1 zhd0 zhd1 HQ HZ8 HA8 HK8 HR8 hz8 hzA8
  go_wp2_with fail
  clear hc1 hf1
  have HRx : Hid (Row (wq.setCell ⟨g, 1, none⟩ (.int .i64 ((j : Int) + 1))) g (curV s (j + 1))) := by
    have h := HR9.out.set 1 (.int .i64 ((j : Int) + 1))
    rw [cur_set s j (j + 1) (by omega)] at h
    exact h
  have HKx := Lib.hid (keep_set HK9.out (.int .i64 ((j : Int) + 1)) (j := 1))
  have HZx := Lib.hid (res_set (j := 1) (v := .int .i64 ((j : Int) + 1)) HZ9.out hne)
  have HAx := Lib.hid (res_set (j := 1) (v := .int .i64 ((j : Int) + 1)) HA9.out hneA)
  have hzx : w.heap.size < (wq.setCell ⟨g, 1, none⟩ (.int .i64 ((j : Int) + 1))).heap.size := by rw [World.size_setCell]; exact hz9
  have hzAx : nA < (wq.setCell ⟨g, 1, none⟩ (.int .i64 ((j : Int) + 1))).heap.size := by rw [World.size_setCell]; exact hzA9
  refine (HV.out _ HRx.out).mono ?_
  rintro e W6 ⟨rfl, hkk⟩
  have HZy := Lib.hid (only_zero HZx.out hkk hzx hne)
  have HAy := Lib.hid (only_zero HAx.out hkk hzAx hneA)
  have HKy := Lib.hid (HKx.out.trans hkk)
  have hzy := Nat.lt_of_lt_of_le hzx hkk.size
  have hzAy := Nat.lt_of_lt_of_le hzAx hkk.size
  clear hkk
  dsimp only
  go_wp2_with fail
  -- refs.All has answered: W7, hb; HKy HZy HAy facts of the world before it
  refine (All_any _ true _ ?_).mono ?_
  · first | decide | (rw [strB_size]; omega)
  rintro e W7 ⟨rfl, hb⟩
  have HZz := Lib.hid (zero_below HZy.out hb hzy)
  have HAz := Lib.hid (zero_below HAy.out hb hzAy)
  have HKz := Lib.hid (keeps_then' HKy.out hb)
  obtain ⟨⟨q0, q1⟩, f0, f1⟩ := two_cells HZz.out
  obtain ⟨⟨a0, a1⟩, b0, b1⟩ := two_cells HAz.out
  clear hb
  dsimp only
  go_wp2_with fail
  refine bodyPost_ret (results_attr rfl _ _ w.heap.size _ _ _ _ rfl (put2_at (res_set HZz.out hneR) _ _) Tryz.underlying56 rfl attr_info) rfl ?_
  exact ⟨⟨_, _, rfl⟩, put2_keeps (HKz.out.set (.inr hwA) _) (Nat.le_refl _) _ _⟩

set_option maxRecDepth 100000 in
set_option maxHeartbeats 4000000 in
theorem attr_eq (s : ByteArray) (g i k n j : Nat) (v r : Str) (w : World) (hr : Row w g (curV s i)) (hi : i < s.size) (hs : s.size ≤ 4294967280) (hk : i + 1 + k < s.size) (hu : untilF signA (s.toList.drop (i + 1)) = some ((s.toList.drop (i + 1)).take k, s.toList.drop (i + 1 + k)))
    (hj : j = i + 1 + k + n) (hn : j < s.size) (h4 : ∀ c ∈ (s.toList.drop (i + 1 + k)).take n, spaceB c = true) (h5 : spaceB s[j] = false) (h61 : s[j] = 61) (hv : valueF (s.toList.drop (j + 1)) = some (v, r)) (hvl : v.length ≤ s.size) :
    Calls Tryz.prog 95 #[.pointer (some ⟨g, 0, none⟩)] w fun e w' => e = .returned (.tuple #[.agg #[.string (strB (lowS (s[i] :: (s.toList.drop (i + 1)).take k))), .string (strB (allS v true))], .bool true]) ∧ Row w' g (curV s (s.size - r.length)) ∧ Keeps (Only g) w w' := by
  have HSP := Lib.hid (fun u hu' => spaces_any s g (i + 1 + k) n u hu' (by omega) hs h4 (fun c r h => by rw [← hj, list_at s j hn] at h; cases h; exact h5))
  have HV := Lib.hid (fun u hu' => value_yes s g (j + 1) v r u hu' (by omega) hs hv)
  have hgw := hr.lt
  have HU := Lib.hid (fun u hu' => until_yes s ⟨#[9, 10, 12, 32, 47, 62, 61]⟩ g (i + 1) k u hu' hk hs (by decide) (ascii_of (l := signA) (by decide)) (by decide) (by rw [ByteArray.toList_eq]; exact hu))
  obtain ⟨t, ht⟩ : ∃ t, t = (s.toList.drop (i + 1)).take k := ⟨_, rfl⟩
  have htl : t.length ≤ s.size := by rw [ht, List.length_take, List.length_drop, size_toList]; omega
  rw [← ht] at HU
  have hcat : strB [s[i]] ++ strB t = strB (s[i] :: t) := rfl
  have hlen : ¬ 9223372036854775807 < (strB [s[i]]).size + (strB t).size := by rw [strB_size, strB_size]; simp only [List.length_cons, List.length_nil]; omega
  have HSM := Lib.hid (fun u => small_any (strB (s[i] :: t)) u (by rw [strB_size, List.length_cons]; unfold maxLen; omega))
  rw [toList_strB] at HSM
  rw [← ht]
  have h61b : ((s[j].toNat : Int) != 61) = false := by rw [h61]; decide
  clear hu h4 ht h5 h61 hv
  obtain ⟨J, hJ⟩ : ∃ J, J = s.size - r.length := ⟨_, rfl⟩
  rw [← hJ] at HV ⊢
  clear hJ
  obtain ⟨wa, hwa⟩ : ∃ wa, wa = w.alloc (.cells #[.string ⟨#[]⟩, .string ⟨#[]⟩] 56) := ⟨_, rfl⟩
  have HRa := Lib.hid (show Row wa g (curV s i) from hwa ▸ hr.kept (heap_alloc_old w (.cells #[.string ⟨#[]⟩, .string ⟨#[]⟩] 56) hgw))
  have HZa := Lib.hid (show wa.heap[w.heap.size]? = some (.cells #[.string ⟨#[]⟩, .string ⟨#[]⟩] 56 (0, 0)) from hwa ▸ heap_alloc_new _ _)
  have HKa := Lib.hid (show Keeps (Only g) w wa from hwa ▸ (Keeps.refl (Only g) w).alloc _)
  have hza : w.heap.size < wa.heap.size := by rw [hwa]; simp
  have HWA := Lib.hid hwa
  clear hwa
  have hne : w.heap.size ≠ g := by omega
  have e1 : s.extract i (i + 1) = strB [s[i]] := by rw [ext_mid, list_at s i hi]; rfl
  have hle1 : (i : Int) + 1 ≤ (s.size : Int) := by omega
  have hle2 : (0 : Int) ≤ (i : Int) + 1 := by omega
  have hle3 : (i : Int) ≤ (i : Int) + 1 := by omega
  have hwr : IntKind.i64.wrap ((i : Int) + 1) = (i : Int) + 1 := wrap_small _ (by omega) (by omega)
  have htn : ((i : Int) + 1).toNat = i + 1 := by omega
  have hj0 : (0 : Int) ≤ (i : Int) := by omega
  have hc0 : wa.cell? ⟨g, 0, none⟩ = some (.string s) := HRa.out.cell (j := 0) rfl
  have hc1 : wa.cell? ⟨g, 1, none⟩ = some (.int .i64 i) := HRa.out.cell (j := 1) rfl
  clear hr
  go_enter Tryz.func95, Tryz.ntmps95
  go_wp2_with fail
  rw [← HWA.out]
  refine wp_region_calm (by kernel_rfl) (by kernel_rfl) ?_
  repeat
    with_reducible refine wpQuiet_step (fun K hK => ?_)
    first
      | (with_reducible apply calm_skip
         · rfl
         simp only [Act.put, List.setIfInBounds_toArray, List.set_cons_zero, List.set_cons_succ]
         refine hK _ ?_
         clear hK K)
      | (with_reducible apply calm_run
         · rfl
         · intro wq hC
           have zhc0 := cell_later hC.out hc0
           have zhc1 := cell_later hC.out hc1
           unfold Oper.quietAt
           go_simp
           first | done | with_reducible rfl | rfl
         simp only [Act.put, List.setIfInBounds_toArray, List.set_cons_zero, List.set_cons_succ]
         refine hK _ ?_
         clear hK K)
  with_reducible refine wpQuiet_nil ?_
  intro wq HQ
  have zhc0 := cell_later HQ.out hc0
  have zhc1 := cell_later HQ.out hc1
  have HR2 := Lib.hid (HRa.out.below HQ.out HRa.out.lt)
  have HK2 := Lib.hid (keeps_then' HKa.out HQ.out)
  have HZ2 := Lib.hid (zero_below HZa.out HQ.out hza)
  have hz2 := Nat.lt_of_lt_of_le hza HQ.out.size
  have hf1 : wq.frozen? ⟨g, 1, none⟩ = false := HR2.out.frozen (j := 1) (by simp [curV])
  have hc2 := zhc1
  clear hc0 hc1 zhc0 zhc1 HQ HRa HKa HZa hza
  go_wp2_with fail
  clear hf1 hc2
  have HR3 : Hid (Row (wq.setCell ⟨g, 1, none⟩ (.int .i64 ((i : Int) + 1))) g (curV s (i + 1))) := by
    have h := HR2.out.set 1 (.int .i64 ((i : Int) + 1))
    rw [cur_set s i (i + 1) (by omega)] at h
    exact h
  have HK3 := Lib.hid (keep_set HK2.out (.int .i64 ((i : Int) + 1)) (j := 1))
  have HZ3 := Lib.hid (res_set (j := 1) (v := .int .i64 ((i : Int) + 1)) HZ2.out hne)
  have hz3 : w.heap.size < (wq.setCell ⟨g, 1, none⟩ (.int .i64 ((i : Int) + 1))).heap.size := by rw [World.size_setCell]; exact hz2
  refine (HU.out _ HR3.out).mono ?_
  rintro e W2 ⟨rfl, hrr, hkk⟩
  have HR4 := Lib.hid hrr
  have HK4 := Lib.hid (HK3.out.trans hkk)
  have HZ4 := Lib.hid (only_zero HZ3.out hkk hz3 hne)
  have hz4 := Nat.lt_of_lt_of_le hz3 hkk.size
  clear hrr hkk
  dsimp only
  go_wp2_with fail
  refine (HSM.out _).mono ?_
  rintro e W3 ⟨rfl, hb⟩
  have HR5 := Lib.hid (HR4.out.below hb HR4.out.lt)
  have HK5 := Lib.hid (keeps_then' HK4.out hb)
  have HZ5 := Lib.hid (zero_below HZ4.out hb hz4)
  have hz5 := Nat.lt_of_lt_of_le hz4 hb.size
  clear hb
  dsimp only
  go_wp2_with fail
  have HR6 := Lib.hid (HR5.out.kept (heap_alloc_old W3 (.cells #[.string (strB (lowS (s[i] :: t))), .string ⟨#[]⟩] 56) HR5.out.lt))
  have HK6 := Lib.hid (HK5.out.alloc (.cells #[.string (strB (lowS (s[i] :: t))), .string ⟨#[]⟩] 56))
  have HZ6 := Lib.hid ((heap_alloc_old W3 (.cells #[.string (strB (lowS (s[i] :: t))), .string ⟨#[]⟩] 56) hz5).trans HZ5.out)
  have HA6 := Lib.hid (heap_alloc_new W3 (.cells #[.string (strB (lowS (s[i] :: t))), .string ⟨#[]⟩] 56))
  have hzz : W3.heap.size < (W3.alloc (.cells #[.string (strB (lowS (s[i] :: t))), .string ⟨#[]⟩] 56)).heap.size := by simp
  have hg5 := HR5.out.lt
  generalize W3.alloc (.cells #[.string (strB (lowS (s[i] :: t))), .string ⟨#[]⟩] 56) = W4 at *
  generalize W3.heap.size = nA at *
  have hz6 : w.heap.size < W4.heap.size := by omega
  have hneA : nA ≠ g := by omega
  have hneR : w.heap.size ≠ nA := by omega
  have hwA : w.heap.size ≤ nA := by omega
  refine (HSP.out _ HR6.out).mono ?_
  rintro e W5 ⟨rfl, hrr, hkk⟩
  have HZ7 := Lib.hid (only_zero HZ6.out hkk hz6 hne)
  have HA7 := Lib.hid (only_zero HA6.out hkk hzz hneA)
  have HK7 := Lib.hid (HK6.out.trans hkk)
  have hz7 := Nat.lt_of_lt_of_le hz6 hkk.size
  have hzA7 := Nat.lt_of_lt_of_le hzz hkk.size
  have HR7 := Lib.hid hrr
  have hc0 : W5.cell? ⟨g, 0, none⟩ = some (.string s) := HR7.out.cell (j := 0) rfl
  have hc1 : W5.cell? ⟨g, 1, none⟩ = some (.int .i64 ((i + 1 + k + n : Nat) : Int)) := HR7.out.cell (j := 1) rfl
  clear hrr hkk HR6 HK6 HZ6 HA6 hzz hg5 HR5 HK5 HZ5 hz5 hz6
  rw [← hj] at HR7 hc1
  clear hj
  first
    | (have hjb : ((j : Int) == (s.size : Int)) = true := by rw [beq_iff_eq]; omega)
    | (have hjb : ((j : Int) == (s.size : Int)) = false := by rw [beq_eq_false_iff_ne]; omega)
  dsimp only
  go_wp2_with fail
  refine wp_region_calm (by kernel_rfl) (by kernel_rfl) ?_
  repeat
    with_reducible refine wpQuiet_step (fun K hK => ?_)
    first
      | (with_reducible apply calm_skip
         · rfl
         simp only [Act.put, List.setIfInBounds_toArray, List.set_cons_zero, List.set_cons_succ]
         refine hK _ ?_
         clear hK K)
      | (with_reducible apply calm_run
         · rfl
         · intro wq hC
           have zhc0 := cell_later hC.out hc0
           have zhc1 := cell_later hC.out hc1
           unfold Oper.quietAt
           go_simp
           first | done | with_reducible rfl | rfl
         simp only [Act.put, List.setIfInBounds_toArray, List.set_cons_zero, List.set_cons_succ]
         refine hK _ ?_
         clear hK K)
  with_reducible refine wpQuiet_nil ?_
  intro wq HQ
  have zhc0 := cell_later HQ.out hc0
  have zhc1 := cell_later HQ.out hc1
  have HZ8 := Lib.hid (zero_below HZ7.out HQ.out hz7)
  have HA8 := Lib.hid (zero_below HA7.out HQ.out hzA7)
  have HK8 := Lib.hid (keeps_then' HK7.out HQ.out)
  have HR8 := Lib.hid (HR7.out.below HQ.out HR7.out.lt)
  have hz8 := Nat.lt_of_lt_of_le hz7 HQ.out.size
  have hzA8 := Nat.lt_of_lt_of_le hzA7 HQ.out.size
  have hd0 := zhc0
  have hd1 := zhc1
  clear hc0 hc1 zhc0 zhc1 HQ HZ7 HA7 HK7 HR7 hz7 hzA7
  obtain ⟨⟨p0, p1⟩, o0, o1⟩ := two_cells HZ8.out
  go_wp2_with fail
  clear p0 p1 o0 o1
  refine wp_region_calm (by kernel_rfl) (by kernel_rfl) ?_
  repeat
    with_reducible refine wpQuiet_step (fun K hK => ?_)
    first
      | (with_reducible apply calm_skip
         · rfl
         simp only [Act.put, List.setIfInBounds_toArray, List.set_cons_zero, List.set_cons_succ]
         refine hK _ ?_
         clear hK K)
      | (with_reducible apply calm_run
         · rfl
         · intro wq hC
           have zhd0 := cell_later hC.out hd0
           have zhd1 := cell_later hC.out hd1
           unfold Oper.quietAt
           go_simp
           first | done | with_reducible rfl | rfl
         simp only [Act.put, List.setIfInBounds_toArray, List.set_cons_zero, List.set_cons_succ]
         refine hK _ ?_
         clear hK K)
  with_reducible refine wpQuiet_nil ?_
  intro wq HQ
  have zhd0 := cell_later HQ.out hd0
  have zhd1 := cell_later HQ.out hd1
  have HZ9 := Lib.hid (zero_below HZ8.out HQ.out hz8)
  have HA9 := Lib.hid (zero_below HA8.out HQ.out hzA8)
  have HK9 := Lib.hid (keeps_then' HK8.out HQ.out)
  have HR9 := Lib.hid (HR8.out.below HQ.out HR8.out.lt)
  have hz9 := Nat.lt_of_lt_of_le hz8 HQ.out.size
  have hzA9 := Nat.lt_of_lt_of_le hzA8 HQ.out.size
  have hc1 := zhd1
  have hf1 : wq.frozen? ⟨g, 1, none⟩ = false := HR9.out.frozen (j := 1) (by simp [curV])
  clear hd0 hd1 zhd0 zhd1 HQ HZ8 HA8 HK8 HR8 hz8 hzA8
  go_wp2_with fail
  clear hc1 hf1
  have HRx : Hid (Row (wq.setCell ⟨g, 1, none⟩ (.int .i64 ((j : Int) + 1))) g (curV s (j + 1))) := by
    have h := HR9.out.set 1 (.int .i64 ((j : Int) + 1))
    rw [cur_set s j (j + 1) (by omega)] at h
    exact h
  have HKx := Lib.hid (keep_set HK9.out (.int .i64 ((j : Int) + 1)) (j := 1))
  have HZx := Lib.hid (res_set (j := 1) (v := .int .i64 ((j : Int) + 1)) HZ9.out hne)
  have HAx := Lib.hid (res_set (j := 1) (v := .int .i64 ((j : Int) + 1)) HA9.out hneA)
  have hzx : w.heap.size < (wq.setCell ⟨g, 1, none⟩ (.int .i64 ((j : Int) + 1))).heap.size := by rw [World.size_setCell]; exact hz9
  have hzAx : nA < (wq.setCell ⟨g, 1, none⟩ (.int .i64 ((j : Int) + 1))).heap.size := by rw [World.size_setCell]; exact hzA9
  refine (HV.out _ HRx.out).mono ?_
  rintro e W6 ⟨rfl, hrr, hkk⟩
  have HZy := Lib.hid (only_zero HZx.out hkk hzx hne)
  have HAy := Lib.hid (only_zero HAx.out hkk hzAx hneA)
  have HKy := Lib.hid (HKx.out.trans hkk)
  have hzy := Nat.lt_of_lt_of_le hzx hkk.size
  have hzAy := Nat.lt_of_lt_of_le hzAx hkk.size
  have HRy := Lib.hid hrr
  clear hkk hrr
  dsimp only
  go_wp2_with fail
  -- refs.All has answered: W7, hb; HKy HZy HAy facts of the world before it
  refine (All_any _ true _ ?_).mono ?_
  · first | decide | (rw [strB_size]; omega)
  rintro e W7 ⟨rfl, hb⟩
  have HZz := Lib.hid (zero_below HZy.out hb hzy)
  have HAz := Lib.hid (zero_below HAy.out hb hzAy)
  have HKz := Lib.hid (keeps_then' HKy.out hb)
  obtain ⟨⟨q0, q1⟩, f0, f1⟩ := two_cells HZz.out
  obtain ⟨⟨a0, a1⟩, b0, b1⟩ := two_cells HAz.out
  have HRz := Lib.hid (HRy.out.below hb HRy.out.lt)
  clear hb
  rw [toList_strB]
  dsimp only
  go_wp2_with fail
  refine bodyPost_ret (results_attr rfl _ _ w.heap.size _ _ _ _ rfl (put2_at (res_set HZz.out hneR) _ _) Tryz.underlying56 rfl attr_info) rfl ?_
  refine ⟨rfl, put2_row ?_ (fun e => hne e.symm) _ _, put2_keeps (HKz.out.set (.inr hwA) _) (Nat.le_refl _) _ _⟩
  exact HRz.out.kept (heap_setCell_other _ _ _ _ (fun e => hneA e.symm))

theorem valueF_vlen {r v t : Str} (h : valueF r = some (v, t)) : v.length ≤ r.length := by
  have h0 := dropWhile_len spaceB r
  unfold valueF at h
  split at h
  · cases h
  · rename_i q r1 he
    rw [he] at h0
    split at h
    · cases hu : untilF [q] r1 with
      | none => rw [hu] at h; cases h
      | some p =>
        rw [hu] at h
        simp only [Option.map_some, Option.some.injEq, Prod.mk.injEq] at h
        have := (untilF_len hu).1
        rw [← h.1]
        simp only [List.length_cons] at h0
        omega
    · have := (untilF_len h).1
      omega
/-- attr, by what the plain text says -/
theorem attr_fail (s : ByteArray) (g i : Nat) (w : World) (hr : Row w g (curV s i)) (hi : i < s.size) (hs : s.size ≤ 4294967280) (ha : attrF (s.toList.drop i) = none) :
    Calls Tryz.prog 95 #[.pointer (some ⟨g, 0, none⟩)] w fun e w' => (∃ a1 a2, e = .returned (.tuple #[.agg #[.string a1, .string a2], .bool false])) ∧ Keeps (Only g) w w' := by
  rw [list_at s i hi] at ha
  simp only [attrF] at ha
  rcases until_cases signA (s.toList.drop (i + 1)) with ⟨hu, _⟩ | ⟨k, hk, hu, _⟩
  · exact attr_cut s g i w hr hi hs hu
  · rw [hu] at ha
    rw [List.length_drop, size_toList] at hk
    rw [List.drop_drop] at hu ha
    obtain ⟨n, hn, hd, h4, h5⟩ := spaces_drop s (i + 1 + k) (by omega)
    simp only [hd] at ha
    rcases Nat.lt_or_ge (i + 1 + k + n) s.size with hlt | hge
    · rw [list_at s _ hlt] at ha
      simp only at ha
      by_cases h61 : s[i + 1 + k + n] = 61
      · rw [if_pos h61] at ha
        have hv : valueF (s.toList.drop (i + 1 + k + n + 1)) = none := by
          cases h : valueF (s.toList.drop (i + 1 + k + n + 1)) with
          | none => rfl
          | some p => rw [h] at ha; cases ha
        exact attr_none s g i k n _ w hr hi hs (by omega) hu rfl hlt h4 (h5 _ _ (list_at s _ hlt)) h61 hv
      · rw [if_neg h61] at ha
        cases ha
    · exact attr_open s g i k n _ w hr hi hs (by omega) hu rfl (by omega) h4
theorem attr_ok (s : ByteArray) (g i : Nat) (nm vl r : Str) (w : World) (hr : Row w g (curV s i)) (hi : i < s.size) (hs : s.size ≤ 4294967280) (ha : attrF (s.toList.drop i) = some ((nm, vl), r)) :
    Calls Tryz.prog 95 #[.pointer (some ⟨g, 0, none⟩)] w fun e w' => e = .returned (.tuple #[.agg #[.string (strB nm), .string (strB vl)], .bool true]) ∧ Row w' g (curV s (s.size - r.length)) ∧ Keeps (Only g) w w' := by
  rw [list_at s i hi] at ha
  simp only [attrF] at ha
  rcases until_cases signA (s.toList.drop (i + 1)) with ⟨hu, _⟩ | ⟨k, hk, hu, _⟩
  · rw [hu] at ha; cases ha
  · rw [hu] at ha
    rw [List.length_drop, size_toList] at hk
    rw [List.drop_drop] at hu ha
    obtain ⟨n, hn, hd, h4, h5⟩ := spaces_drop s (i + 1 + k) (by omega)
    simp only [hd] at ha
    rcases Nat.lt_or_ge (i + 1 + k + n) s.size with hlt | hge
    · have hl := list_at s _ hlt
      rw [hl] at ha
      simp only at ha
      by_cases h61 : s[i + 1 + k + n] = 61
      · rw [if_pos h61] at ha
        cases hv : valueF (s.toList.drop (i + 1 + k + n + 1)) with
        | none => rw [hv] at ha; cases ha
        | some p =>
          obtain ⟨v, r2⟩ := p
          rw [hv] at ha
          simp only [Option.map_some, Option.some.injEq, Prod.mk.injEq] at ha
          obtain ⟨⟨rfl, rfl⟩, rfl⟩ := ha
          have hvl := valueF_vlen hv
          rw [List.length_drop, size_toList] at hvl
          exact attr_eq s g i k n _ v r2 w hr hi hs (by omega) hu rfl hlt h4 (h5 _ _ hl) h61 hv (by omega)
      · rw [if_neg h61] at ha
        simp only [Option.some.injEq, Prod.mk.injEq] at ha
        obtain ⟨⟨rfl, rfl⟩, rfl⟩ := ha
        have hlen : s.size - (s[i + 1 + k + n] :: s.toList.drop (i + 1 + k + n + 1)).length = i + 1 + k + n := by
          rw [List.length_cons, List.length_drop, size_toList]; omega
        rw [hlen]
        exact attr_bare s g i k n _ w hr hi hs (by omega) hu rfl hlt h4 (h5 _ _ hl) h61
    · rw [List.drop_of_length_le (by rw [size_toList]; exact hge)] at ha
      cases ha
end Go.Proofs.YtbabcohidpcjjaaGreat

/-
  Contract: marks.has: is an attribute's name there?
-/
namespace Go.Proofs.YtbabcohidpcjjaaGreat
open Go.RowKit Mem

/-- attributes as pairs of strings -/
def attP (al : List (Str × Str)) : List Pair := al.map fun a => (strB a.1, strB a.2)
theorem attP_length (al : List (Str × Str)) : (attP al).length = al.length := by simp [attP]
theorem attP_get (al : List (Str × Str)) (k : Nat) (h : k < al.length) (h' : k < (attP al).length) : (attP al)[k] = (strB al[k].1, strB al[k].2) := by simp [attP]
theorem hasA_take_none {al : List (Str × Str)} {n : Str} (h : ∀ a ∈ al, (a.1 == n) = false) : hasA al n = false := by
  unfold hasA
  rw [List.any_eq_false]
  intro a ha e
  rw [h a ha] at e
  cases e
set_option maxRecDepth 100000 in
set_option maxHeartbeats 2000000 in
theorem has_any (al : List (Str × Str)) (a : Option Addr) (c : Nat) (name : ByteArray) (w : World) (hA : At w a (pairsV (attP al))) (hl : al.length ≤ 1000000) :
    Calls Tryz.prog 96 #[.slice a al.length c, .string name] w fun e w' => e = .returned (.bool (hasA al name.toList)) ∧ Below w.heap.size w w' := by
  have HA := Lib.hid hA
  clear hA
  obtain ⟨len, hlen⟩ : ∃ len, len = al.length := ⟨_, rfl⟩
  rw [← hlen] at hl ⊢
  go_enter Tryz.func96, Tryz.ntmps96
  go_wp2_with fail
  go_loopw [9] (fun v wr => ∃ k : Nat, k ≤ len ∧ v = .int .i64 k ∧ Below w.heap.size w wr ∧ ∀ x ∈ al.take k, (x.1 == name.toList) = false) (fun v _ => len - (intOf v).toNat)
  case atStart => exact ⟨0, Nat.zero_le _, rfl, Below.refl _ _, fun x hx => by cases hx⟩
  case round =>
    obtain ⟨k, hk, rfl, hb, hno⟩ := hrel
    have HB := Lib.hid hb
    have HN := Lib.hid hno
    clear hb hno
    by_cases hlt : k < len
    · have hka : k < al.length := by omega
      have hkp : k < (attP al).length := by rw [attP_length]; exact hka
      obtain ⟨b, o, rfl, hbw, hc0, hc1⟩ := pair_cells (HA.out.below HB.out) hkp
      have HP := Lib.hid (attP_get al k hka hkp)
      generalize (attP al)[k] = p at *
      obtain ⟨p1, p2⟩ := p
      simp only at hc0 hc1
      have hp1 : p1 = strB al[k].1 := (Prod.mk.inj HP.out).1
      cases hcmp : (p1.toList == name.toList)
      · have HX : Hid ((al[k].1 == name.toList) = false) := by show _ = _; rw [hp1, toList_strB] at hcmp; exact hcmp
        clear hp1 HP
        go_wp2_with fail
        go_roundw
        case rel =>
          refine ⟨k + 1, by omega, by go_num, HB.out.alloc HB.out.size _, fun x hx => ?_⟩
          rw [List.take_succ_eq_append_getElem hka] at hx
          rcases List.mem_append.1 hx with hx | hx
          · exact HN.out x hx
          · rw [List.mem_singleton.1 hx]; exact HX.out
        case measure => simp [intOf]; omega
      · have HX : Hid (hasA al name.toList = true) := by
          show _ = _
          rw [hp1, toList_strB] at hcmp
          exact List.any_eq_true.2 ⟨al[k], List.getElem_mem hka, hcmp⟩
        clear hp1 HP
        go_wp2_with fail
        go_ret
        exact ⟨ret_bool HX.out.symm, HB.out.alloc HB.out.size _⟩
    · obtain rfl : k = len := by omega
      go_wp2_with fail
      go_ret
      exact ⟨ret_bool (by rw [hasA_take_none fun x hx => HN.out x (by rw [hlen, List.take_of_length_le (Nat.le_refl _)]; exact hx)]), HB.out⟩
end Go.Proofs.YtbabcohidpcjjaaGreat

/-
  Contract: marks.parse: a tag at the front of a text.
-/
namespace Go.Proofs.YtbabcohidpcjjaaGreat
open Go.RowKit Mem

/-- the cells of parse's mark -/
def xV (kd : Int) (nm : Str) (sl : Value) (sf : Bool) : List Value := [.int .i64 kd, .string (strB nm), sl, .bool sf, .string ⟨#[]⟩]
/-- parse's blocks: the result R, the cursor C, the mark X; what it made besides lies behind -/
structure PW (w : World) (s : ByteArray) (R C X : Nat) (i : Nat) (kd : Int) (nm : Str) (sl : Value) (sf : Bool) (al : List (Str × Str)) (u : World) : Prop where
  zero : u.heap[R]? = some (.cells zeroMark 46 (0, 0))
  cur : Row u C (curV s i)
  mark : Row u X (xV kd nm sl sf)
  own : u.ownsRow (X + 1) 56 2 sl al.length (pairsV (attP al))
  below : Below w.heap.size w u
  lt : w.heap.size ≤ R ∧ R < C ∧ C < X ∧ X < u.heap.size
theorem PW.calm {w u u' : World} {s : ByteArray} {R C X i : Nat} {kd : Int} {nm : Str} {sl : Value} {sf : Bool} {al : List (Str × Str)} (h : PW w s R C X i kd nm sl sf al u) (hb : Below u.heap.size u u') : PW w s R C X i kd nm sl sf al u' := by
  have hl := h.lt
  exact ⟨zero_below h.zero hb (by omega), h.cur.below hb h.cur.lt, h.mark.below hb h.mark.lt, own_below h.own hb, belowCall h.below hb, by have := hb.size; omega⟩
theorem PW.moved {w u u' : World} {s : ByteArray} {R C X i j : Nat} {kd : Int} {nm : Str} {sl : Value} {sf : Bool} {al : List (Str × Str)} (h : PW w s R C X i kd nm sl sf al u) (hk : Keeps (Only C) u u') (hr : Row u' C (curV s j)) : PW w s R C X j kd nm sl sf al u' := by
  have hl := h.lt
  refine ⟨only_zero h.zero hk (by omega) (by omega), hr, h.mark.kept (hk.block X hl.2.2.2 (by show ¬ X = C; omega)), own_kept h.own fun g hg => hk.block g (h.own.lt g hg).2 (by show ¬ g = C; have := (h.own.lt g hg).1; omega), ?_, by have := hk.size; omega⟩
  exact ⟨hk.os.trans h.below.os, hk.tape.trans h.below.tape, hk.output.trans h.below.output, Nat.le_trans h.below.size hk.size, fun k hk' => (hk.block k (by have := h.below.size; omega) (by show ¬ k = C; omega)).trans (h.below.block k hk')⟩
theorem PW.named {w u : World} {s : ByteArray} {R C X i : Nat} {kd : Int} {nm nm' : Str} {sl : Value} {sf : Bool} {al : List (Str × Str)} (h : PW w s R C X i kd nm sl sf al u) : PW w s R C X i kd nm' sl sf al (u.setCell ⟨X, 1, none⟩ (.string (strB nm'))) := by
  have hl := h.lt
  refine ⟨res_set h.zero (by omega), h.cur.kept (heap_setCell_other _ _ _ _ (by show C ≠ X; omega)), h.mark.set 1 _, own_kept h.own fun g hg => heap_setCell_other _ _ _ _ (by show g ≠ X; have := (h.own.lt g hg).1; omega), h.below.setCell (by show w.heap.size ≤ X; omega) _, by rw [World.size_setCell]; exact hl⟩

theorem PW.start (w : World) (s : ByteArray) (i : Nat) (kd : Int) : PW w s w.heap.size (w.heap.size + 1) (w.heap.size + 1 + 1) i kd [] (.slice none 0 0) false []
    (((w.alloc (.cells #[.int .i64 0, .string ⟨#[]⟩, .slice none 0 0, .bool false, .string ⟨#[]⟩] 46)).alloc (.cells #[.string s, .int .i64 i] 129)).alloc (.cells #[.int .i64 kd, .string ⟨#[]⟩, .slice none 0 0, .bool false, .string ⟨#[]⟩] 46)) := by
  refine ⟨?_, ?_, ?_, World.ownsRow_nil _ _ _ _, (((Below.refl w.heap.size w).alloc (Nat.le_refl _) _).alloc (by simp) _).alloc (by simp; omega) _, by simp⟩
  · rw [heap_alloc_old _ _ (by simp; omega), heap_alloc_old _ _ (by simp)]
    exact heap_alloc_new _ _
  · refine Row.kept (Row.alloc (w.alloc (.cells #[.int .i64 0, .string ⟨#[]⟩, .slice none 0 0, .bool false, .string ⟨#[]⟩] 46)) #[.string s, .int .i64 i] 129 |> fun h => by simpa [curV] using h) ?_
    exact heap_alloc_old _ _ (by simp)
  · have h := Row.alloc ((w.alloc (.cells #[.int .i64 0, .string ⟨#[]⟩, .slice none 0 0, .bool false, .string ⟨#[]⟩] 46)).alloc (.cells #[.string s, .int .i64 i] 129)) #[.int .i64 kd, .string ⟨#[]⟩, .slice none 0 0, .bool false, .string ⟨#[]⟩] 46
    simp at h
    exact h
/-- how much parse has to do -/
def parM (s : ByteArray) (C : Nat) (v : Value) (wr : World) : Nat := match v with
  | .bool true => 1 + (s.size - curAt wr C)
  | _ => 0
/-- parse's answer, by what its attributes are -/
def ansF (s : ByteArray) (e : Bool) (nm : Str) (T : Option (List (Str × Str) × Bool × Str)) : MarkD × Int × Int := match T with
  | none => (bareM 0, -1, 0)
  | some (al, sl, r2) => if e then (⟨3, nm, [], false, []⟩, (s.size : Int) - r2.length, 0) else if 8 < al.length then (bareM 0, (s.size : Int) - r2.length, 42) else (⟨2, nm, al, sl, []⟩, (s.size : Int) - r2.length, 0)
theorem parse_ans (s : ByteArray) (e : Bool) : parseF s.toList e = match untilF signT (s.toList.drop (if e then 2 else 1)) with
  | none => ansF s e [] none
  | some (nm, r) => ansF s e (lowS nm) (tagsF [] r) := by
  unfold parseF ansF
  rw [size_toList]
  cases untilF signT (s.toList.drop (if e then 2 else 1)) with
  | none => rfl
  | some q =>
    obtain ⟨nm, r⟩ := q
    cases h : tagsF [] r with
    | none => simp only [h]
    | some q => simp only [h]

/-- is the last of the gap a stroke? -/
def slashF (l : Str) : Bool := l.getLast? == some 47
theorem slash_step (l : Str) (k : Nat) (h : k < l.length) : slashF (l.take (k + 1)) = ((l[k].toNat : Int) == 47) := by
  unfold slashF
  rw [List.take_succ_eq_append_getElem h, List.getLast?_concat]
  show (some l[k] == some 47) = _
  rw [show ((47 : Int)) = (((47 : UInt8).toNat : Nat) : Int) from rfl, ← ueq]
  rfl
theorem tagsF_end {al : List (Str × Str)} {r : Str} (h : r.dropWhile gapB = []) : tagsF al r = none := by
  rw [tagsF]
  split
  · rfl
  · rename_i c r1 he
    rw [h] at he; cases he
theorem tagsF_close {al : List (Str × Str)} {r r1 : Str} (h : r.dropWhile gapB = 62 :: r1) : tagsF al r = some (al, slashF (r.takeWhile gapB), r1) := by
  rw [tagsF]
  split
  · rename_i he
    rw [h] at he; cases he
  · rename_i c r2 he
    rw [h] at he
    cases he
    rw [if_pos rfl]
    rfl
theorem tagsF_bad {al : List (Str × Str)} {r r1 : Str} {c : UInt8} (h : r.dropWhile gapB = c :: r1) (hc : c ≠ 62) (ha : attrF (c :: r1) = none) : tagsF al r = none := by
  rw [tagsF]
  split
  · rfl
  · rename_i d r2 he
    rw [h] at he
    cases he
    rw [if_neg hc, ha]
theorem tagsF_next {al : List (Str × Str)} {r r1 r2 : Str} {c : UInt8} {a : Str × Str} (h : r.dropWhile gapB = c :: r1) (hc : c ≠ 62) (ha : attrF (c :: r1) = some (a, r2)) : tagsF al r = tagsF (if hasA al a.1 then al else al ++ [a]) r2 := by
  have hl := attrF_len ha
  have hl2 := dropWhile_len gapB r
  rw [h] at hl2
  rw [tagsF]
  split
  · rename_i he
    rw [h] at he; cases he
  · rename_i d r3 he
    rw [h] at he
    cases he
    rw [if_neg hc, ha]
    simp only
    rw [if_pos (by omega)]
theorem own_base {w : World} {base base' : Nat} {t : TypeId} {size : Nat} {v : Value} {n : Nat} {xs : List Value} (h : w.ownsRow base t size v n xs) (hb : base' ≤ base) : w.ownsRow base' t size v n xs :=
  ⟨h.1, h.2.imp id fun ⟨g, cap, cur, h1, h2, r⟩ => ⟨g, cap, cur, h1, Nat.le_trans hb h2, r⟩⟩
theorem put5_other {W : World} {g k : Nat} (hg : k ≠ g) (v0 v1 v2 v3 v4 : Value) : (put5 W g v0 v1 v2 v3 v4).heap[k]? = W.heap[k]? := by
  unfold put5
  rw [heap_setCell_other _ _ _ _ hg, heap_setCell_other _ _ _ _ hg, heap_setCell_other _ _ _ _ hg, heap_setCell_other _ _ _ _ hg, heap_setCell_other _ _ _ _ hg]
theorem put5_below {W w : World} {g : Nat} (h : Below w.heap.size w W) (hg : w.heap.size ≤ g) (v0 v1 v2 v3 v4 : Value) : Below w.heap.size w (put5 W g v0 v1 v2 v3 v4) :=
  ((((h.setCell hg _).setCell hg _).setCell hg _).setCell hg _).setCell hg _
theorem keepsC_below {w u u' : World} {C : Nat} (hb : Below w.heap.size w u) (hk : Keeps (Only C) u u') (hC : w.heap.size ≤ C) : Below w.heap.size w u' :=
  ⟨hk.os.trans hb.os, hk.tape.trans hb.tape, hk.output.trans hb.output, Nat.le_trans hb.size hk.size, fun k hk' => (hk.block k (by have := hb.size; omega) (by show ¬ k = C; omega)).trans (hb.block k hk')⟩
theorem PW.above {w u u' : World} {s : ByteArray} {R C X i A : Nat} {kd : Int} {nm : Str} {sl : Value} {sf : Bool} {al : List (Str × Str)} (h : PW w s R C X i kd nm sl sf al u) (hX : X < A) (_ : A ≤ u.heap.size) (hown : ∀ g, sl.ownBlock = some g → g < A) (hb : Below A u u') : PW w s R C X i kd nm sl sf al u' := by
  have hl := h.lt
  have hsz := hb.size
  exact ⟨(hb.block R (by omega)).trans h.zero, h.cur.kept (hb.block C (by omega)), h.mark.kept (hb.block X hX), own_kept h.own fun g hg => hb.block g (hown g hg), h.below.trans ⟨hb.os, hb.tape, hb.output, hb.size, fun k hk => hb.block k (by omega)⟩, by omega⟩
theorem attrF_good2 {s r : Str} {a : Str × Str} (h : attrF s = some (a, r)) : r <:+ s := by
  cases s with
  | nil => cases h
  | cons c s =>
    simp only [attrF] at h
    split at h
    · cases h
    · rename_i t r2 hu
      have h1 := untilF_suffix hu
      have h2 : r2.dropWhile spaceB <:+ r2 := List.dropWhile_suffix _
      have h3 : r2 <:+ c :: s := h1.1.trans (List.suffix_cons c s)
      split at h
      · cases h
      · rename_i d r4 he
        rw [he] at h2
        split at h
        · cases hv : valueF r4 with
          | none => rw [hv] at h; cases h
          | some p =>
            rw [hv] at h
            simp only [Option.map_some, Option.some.injEq, Prod.mk.injEq] at h
            rw [← h.2]
            exact (valueF_suffix hv).trans ((List.suffix_cons d r4).trans (h2.trans h3))
        · simp only [Option.some.injEq, Prod.mk.injEq] at h
          rw [← h.2]
          exact h2.trans h3
theorem PW.still {w u u' : World} {s : ByteArray} {R C X i : Nat} {kd : Int} {nm : Str} {sl : Value} {sf : Bool} {al : List (Str × Str)} (h : PW w s R C X i kd nm sl sf al u) (hg : u.grownBy u' sl.ownBlock) {k : Nat} (hk : k ≤ X) : u'.heap[k]? = u.heap[k]? :=
  hg.block k (by have := h.lt; omega) fun e => by have := (h.own.lt k e.symm).1; omega
theorem PW.pushed {w u u' : World} {s : ByteArray} {R C X i : Nat} {kd : Int} {nm : Str} {sl v' : Value} {sf : Bool} {al al' : List (Str × Str)} (h : PW w s R C X i kd nm sl sf al u) (hg : u.grownBy u' sl.ownBlock) (hown : u'.ownsRow (X + 1) 56 2 v' al'.length (pairsV (attP al'))) : PW w s R C X i kd nm v' sf al' (u'.setCell ⟨X, 2, none⟩ v') := by
  have hl := h.lt
  refine ⟨res_set ((h.still hg (by omega)).trans h.zero) (by omega), (h.cur.kept (h.still hg (by omega))).kept (heap_setCell_other _ _ _ _ (by show C ≠ X; omega)), (h.mark.kept (h.still hg (Nat.le_refl _))).set 2 v', own_kept hown fun g hg' => heap_setCell_other _ _ _ _ (by show g ≠ X; have := (hown.lt g hg').1; omega), ?_, by rw [World.size_setCell]; have := hg.size; omega⟩
  refine (h.below.trans ⟨hg.os, hg.tape, hg.output, hg.size, fun k hk => h.still hg (by omega)⟩ : Below w.heap.size w u').setCell (by show w.heap.size ≤ X; omega) _
theorem info_attr : (Tryz.prog.info? 56).map (fun i => (i.zero, i.size, i.bytes)) = some (some (.agg #[.string ⟨#[]⟩, .string ⟨#[]⟩]), 2, 32) := by kernel_rfl
theorem news_two {w : World} {g : Nat} (hg : g = w.heap.size) (x y : Value) (e : TypeId) : ∀ j u, [x, y][j]? = some u → (w.alloc (.cells #[x, y] e)).cell? ((⟨g, 0, none⟩ : Addr).add j) = some u := by
  subst hg
  exact cell_two_new w x y e
theorem two_one (p : Pair) : ∀ u ∈ [Value.string p.1, Value.string p.2], u.oneCell' = true := by
  intro u h
  simp only [List.mem_cons, List.not_mem_nil, or_false] at h
  rcases h with rfl | rfl <;> rfl
theorem attP_push (al : List (Str × Str)) (a : Str × Str) : pairsV (attP (al ++ [a])) = pairsV (attP al) ++ [.string (strB a.1), .string (strB a.2)] := by
  unfold attP
  rw [List.map_append, pairsV_append]
  rfl
set_option maxRecDepth 100000 in
set_option maxHeartbeats 4000000 in
theorem parse_any (s : ByteArray) (e : Bool) (w : World) (hs : s.size ≤ 1000000) (h2 : (if e then 2 else 1) ≤ s.size) :
    Calls Tryz.prog 69 #[.string s, .bool e] w fun r w' => ∃ sl, r = .returned (.tuple #[markV sl (parseF s.toList e).1, .int .i64 (parseF s.toList e).2.1, .int .i64 (parseF s.toList e).2.2]) ∧ w'.ownsRow w.heap.size 56 2 sl (parseF s.toList e).1.attrs.length (pairsV (attP (parseF s.toList e).1.attrs)) ∧ Below w.heap.size w w' := by
  obtain ⟨p, hp⟩ : ∃ p, p = parseF s.toList e := ⟨_, rfl⟩
  rw [← hp]
  rw [parse_ans] at hp
  cases e
  · simp only [Bool.false_eq_true, if_false] at hp h2
    have HW := Lib.hid (PW.start w s 1 2)
    rw [show ((1 : Nat) : Int) = 1 from rfl] at HW
    go_enter Tryz.func69, Tryz.ntmps69
    go_wp2_with fail
    generalize (((w.alloc (.cells #[.int .i64 0, .string ⟨#[]⟩, .slice none 0 0, .bool false, .string ⟨#[]⟩] 46)).alloc (.cells #[.string s, .int .i64 1] 129)).alloc (.cells #[.int .i64 2, .string ⟨#[]⟩, .slice none 0 0, .bool false, .string ⟨#[]⟩] 46)) = W0 at *
    generalize hC : w.heap.size + 1 = C at *
    generalize hX : C + 1 = X at *
    clear hC hX
    obtain ⟨i0, hi0⟩ : ∃ i0, i0 = 1 := ⟨_, rfl⟩
    obtain ⟨kd, hkd⟩ : ∃ kd : Int, kd = 2 := ⟨_, rfl⟩
    rw [← hi0] at hp h2 HW
    rw [← hkd] at HW
    have HKD := Lib.hid hkd
    clear hi0 hkd
    rcases until_cases signT (s.toList.drop i0) with ⟨hu, _⟩ | ⟨k, hk, hu, _⟩
    · rw [hu] at hp
      simp only at hp
      obtain ⟨T, hT⟩ : ∃ T : Option (List (Str × Str) × Bool × Str), T = none := ⟨_, rfl⟩
      rw [← hT] at hp
      obtain ⟨nmL, hnm⟩ : ∃ nmL : Str, nmL = [] := ⟨_, rfl⟩
      rw [← hnm] at hp
      have HP := Lib.hid hp
      refine (until_no s ⟨#[9, 10, 12, 32, 47, 62]⟩ C i0 W0 HW.out.cur h2 (by omega) (by decide) (ascii_of (l := signT) (by decide)) (by decide) (by rw [ByteArray.toList_eq (⟨#[9, 10, 12, 32, 47, 62]⟩ : ByteArray)]; exact hu)).mono ?_
      rintro r W1 ⟨rfl, hb⟩
      replace HW := Lib.hid (HW.out.calm hb)
      clear hb hu hp
      dsimp only
      go_wp2_with fail
      refine (small_any ⟨#[]⟩ _ (by decide)).mono ?_
      rintro r W2 ⟨rfl, hb⟩
      replace HW := Lib.hid (HW.out.calm hb)
      rw [show lowS (⟨#[]⟩ : ByteArray).toList = nmL from by rw [hnm, ByteArray.toList_eq]; rfl]
      have hf1 : W2.frozen? ⟨X, 1, none⟩ = false := HW.out.mark.frozen (j := 1) (by simp [xV])
      have hx1 : W2.cell? ⟨X, 1, none⟩ = some (.string (strB [])) := HW.out.mark.cell (j := 1) rfl
      clear hb hnm
      dsimp only
      go_wp2_with fail
      clear hf1 hx1
      have HZ0 := Lib.hid (HW.out.named (nm' := nmL)).zero
      have HB0 := Lib.hid (HW.out.named (nm' := nmL)).below
      have HTN := Lib.hid hT
      clear hT HW
      go_loopw [10] (fun v wr => v = .bool false ∧ wr.heap[w.heap.size]? = some (.cells zeroMark 46 (0, 0)) ∧ Below w.heap.size w wr) (fun _ _ => 0)
      case atStart => exact ⟨rfl, HZ0.out, HB0.out⟩
      case round =>
        obtain ⟨rfl, hz, hb⟩ := hrel
        have HZ := Lib.hid hz
        have HB := Lib.hid hb
        clear hz hb
        -- no end: the result stays as it was
        obtain ⟨⟨q0, q1, q2, q3, q4⟩, f0, f1, f2, f3, f4⟩ := res_cells HZ.out
        go_wp2_with fail
        refine bodyPost_ret (results_mark rfl _ _ w.heap.size _ _ _ _ rfl (put5_at HZ.out _ _ _ _ _) Tryz.underlying46 rfl mark_info) rfl ?_
        rw [HP.out, HTN.out]
        exact ⟨.slice none 0 0, ret_eq rfl, World.ownsRow_nil _ _ _ _, (((((HB.out.setCell (Nat.le_refl _) _).setCell (Nat.le_refl _) _).setCell (Nat.le_refl _) _).setCell (Nat.le_refl _) _).setCell (Nat.le_refl _) _)⟩
    · rw [hu] at hp
      simp only at hp
      rw [List.length_drop, size_toList] at hk
      rw [List.drop_drop] at hu hp
      obtain ⟨t, ht⟩ : ∃ t : Str, t = (s.toList.drop i0).take k := ⟨_, rfl⟩
      obtain ⟨T, hT⟩ : ∃ T : Option (List (Str × Str) × Bool × Str), T = tagsF [] (s.toList.drop (i0 + k)) := ⟨_, rfl⟩
      rw [← hT, ← ht] at hp
      obtain ⟨nmL, hnm⟩ : ∃ nmL : Str, nmL = lowS t := ⟨_, rfl⟩
      rw [← hnm] at hp
      have HP := Lib.hid hp
      have htl : t.length ≤ s.size := by rw [ht, List.length_take, List.length_drop, size_toList]; omega
      refine (until_yes s ⟨#[9, 10, 12, 32, 47, 62]⟩ C i0 k W0 HW.out.cur (by omega) (by omega) (by decide) (ascii_of (l := signT) (by decide)) (by decide) (by rw [ByteArray.toList_eq (⟨#[9, 10, 12, 32, 47, 62]⟩ : ByteArray)]; exact hu)).mono ?_
      rw [← ht]
      rintro r W1 ⟨rfl, hrr, hkk⟩
      replace HW := Lib.hid (HW.out.moved hkk hrr)
      clear hrr hkk hu hp ht
      dsimp only
      go_wp2_with fail
      refine (small_any (strB t) _ (by rw [strB_size]; unfold maxLen; omega)).mono ?_
      rintro r W2 ⟨rfl, hb⟩
      replace HW := Lib.hid (HW.out.calm hb)
      rw [show lowS (strB t).toList = nmL from by rw [hnm, toList_strB]]
      have hf1 : W2.frozen? ⟨X, 1, none⟩ = false := HW.out.mark.frozen (j := 1) (by simp [xV])
      have hx1 : W2.cell? ⟨X, 1, none⟩ = some (.string (strB [])) := HW.out.mark.cell (j := 1) rfl
      clear hb hnm
      dsimp only
      go_wp2_with fail
      clear hf1 hx1
      have HIN : Hid ((∃ (i : Nat) (al : List (Str × Str)) (sl : Value), (Value.bool true) = .bool true ∧ i ≤ s.size ∧ al.length ≤ i ∧ PW w s w.heap.size C X i kd nmL sl false al (W2.setCell ⟨X, 1, none⟩ (.string (strB nmL))) ∧ tagsF al (s.toList.drop i) = T) ∨ ((Value.bool true) = .bool false ∧ T = none ∧ (W2.setCell ⟨X, 1, none⟩ (.string (strB nmL))).heap[w.heap.size]? = some (.cells zeroMark 46 (0, 0)) ∧ Below w.heap.size w (W2.setCell ⟨X, 1, none⟩ (.string (strB nmL))))) :=
        .inl ⟨i0 + k, [], _, rfl, by omega, Nat.zero_le _, HW.out.named, hT.symm⟩
      clear hT HW
      -- HW : PW .. at the loop; HIN : (ok and the text's rest) or the end
      go_loopw [10] (fun v wr => (∃ (i : Nat) (al : List (Str × Str)) (sl : Value), v = .bool true ∧ i ≤ s.size ∧ al.length ≤ i ∧ PW w s w.heap.size C X i kd nmL sl false al wr ∧ tagsF al (s.toList.drop i) = T) ∨ (v = .bool false ∧ T = none ∧ wr.heap[w.heap.size]? = some (.cells zeroMark 46 (0, 0)) ∧ Below w.heap.size w wr)) (fun v wr => parM s C v wr)
      case atStart => exact HIN.out
      case round =>
        rcases hrel with ⟨i, al, sl, rfl, his, hal, hw, hT⟩ | ⟨rfl, hT, hz, hb⟩
        · have HW := Lib.hid hw
          have HT := Lib.hid hT
          have HCO := Lib.hid (curAt_row hw.cur)
          obtain ⟨n, hn, htw, hdw, hg1, hg2⟩ := while_split gapB (s.toList.drop i)
          have HTW := Lib.hid htw
          clear htw
          rw [List.length_drop, size_toList] at hn
          rw [List.drop_drop] at hdw hg2
          clear hw hT
          obtain ⟨wo, rfl⟩ : ∃ wo : World, wo = wr := ⟨_, rfl⟩
          go_wp2_with fail
          go_loopw [11] (fun v wi => ∃ k : Nat, k ≤ n ∧ v = .bool (slashF ((s.toList.drop i).take k)) ∧ PW w s w.heap.size C X (i + k) kd nmL sl false al wi) (fun _ wi => s.size - curAt wi C)
          case atStart => exact ⟨0, Nat.zero_le _, rfl, HW.out⟩
          case round =>
            obtain ⟨k, hk, rfl, hw⟩ := hrel
            obtain ⟨j, hj⟩ : ∃ j, j = i + k := ⟨_, rfl⟩
            rw [← hj] at hw
            have hc1 : wr.cell? ⟨C, 1, none⟩ = some (.int .i64 j) := hw.cur.cell (j := 1) rfl
            have hf1 : wr.frozen? ⟨C, 1, none⟩ = false := hw.cur.frozen (j := 1) (by simp [curV])
            have HCA := Lib.hid (curAt_row hw.cur)
            have HJ := Lib.hid hj
            clear HW
            have HW := Lib.hid hw
            clear hw
            by_cases hjs : j < s.size
            · have hjs2 : (j : Int) < (s.size : Int) := by omega
              have hat := list_at s j hjs
              have hjb : ((j : Int) == (s.size : Int)) = false := by rw [beq_eq_false_iff_ne]; omega
              have hu := s[j].toNat_lt
              have hsp := fun u => space_any s[j] u
              have hgap : gapB s[j] = (spaceB s[j] || ((s[j].toNat : Int) == 47)) := by
                unfold gapB
                rw [show ((47 : Int)) = (((47 : UInt8).toNat : Nat) : Int) from rfl, ← ueq]
              by_cases hkn : k < n
              · have hgt : gapB s[j] = true := by
                  refine hg1 _ ?_
                  have : ((s.toList.drop i).take n)[k]? = some s[j] := by
                    rw [List.getElem?_take_of_lt hkn, List.getElem?_drop, ← hj, ByteArray.toList_eq, Lib.data_getElem? s j hjs]
                  exact List.mem_of_getElem? this
                rw [hgt] at hgap
                have HSL : Hid (slashF ((s.toList.drop i).take (k + 1)) = ((s[j].toNat : Int) == 47)) := by
                  show _ = _
                  have hlen : k < (s.toList.drop i).length := by rw [List.length_drop, size_toList]; omega
                  rw [slash_step _ k hlen, List.getElem_drop]
                  simp only [← hj]
                  rw [byte_at s j hjs]
                cases h47 : ((s[j].toNat : Int) == 47)
                · rw [h47, Bool.or_false] at hgap
                  rw [← hgap] at hsp
                  have HSP := Lib.hid hsp
                  rw [h47] at HSL
                  clear hsp hat hgap hgt hj hg1 hg2
                  go_wp2_with (go_at_call 94; go_must (refine (HSP.out _).mono ?_; rintro e wx ⟨rfl, rfl⟩))
                  go_roundw
                  case rel =>
                    have hj := HJ.out
                    refine ⟨k + 1, by omega, by rw [HSL.out], ?_⟩
                    have h := HW.out.cur.set 1 (.int .i64 ((j : Int) + 1))
                    rw [cur_set s j (i + (k + 1)) (by omega)] at h
                    exact HW.out.moved (keep_set (Keeps.refl _ _) _) h
                  case measure =>
                    have h := HW.out.cur.set 1 (.int .i64 ((j : Int) + 1))
                    rw [cur_set s j (j + 1) (by omega)] at h
                    rw [HCA.out, curAt_row h]
                    omega
                · rw [h47] at HSL
                  generalize spaceB s[j] = sp at *
                  have HSP := Lib.hid hsp
                  clear hsp hat hgap hgt hj hg1 hg2
                  go_wp2_with (go_at_call 94; go_must (refine (HSP.out _).mono ?_; rintro e wx ⟨rfl, rfl⟩))
                  all_goals
                    go_roundw
                    case rel =>
                      have hj := HJ.out
                      refine ⟨k + 1, by omega, by rw [HSL.out], ?_⟩
                      have h := HW.out.cur.set 1 (.int .i64 ((j : Int) + 1))
                      rw [cur_set s j (i + (k + 1)) (by omega)] at h
                      exact HW.out.moved (keep_set (Keeps.refl _ _) _) h
                    case measure =>
                      have h := HW.out.cur.set 1 (.int .i64 ((j : Int) + 1))
                      rw [cur_set s j (j + 1) (by omega)] at h
                      rw [HCA.out, curAt_row h]
                      omega
              · obtain rfl : k = n := by omega
                have hgf : gapB s[j] = false := hg2 _ _ (by rw [← hj]; exact hat)
                rw [hgf] at hgap
                have hsb : spaceB s[j] = false := by cases h : spaceB s[j] <;> rw [h] at hgap <;> first | rfl | cases hgap
                have h47 : ((s[j].toNat : Int) == 47) = false := by cases h : ((s[j].toNat : Int) == 47) <;> rw [h] at hgap <;> first | rfl | (rw [Bool.or_true] at hgap; cases hgap)
                rw [hsb] at hsp
                have HSP := Lib.hid hsp
                have HDW := Lib.hid (show (s.toList.drop i).dropWhile gapB = s[j] :: s.toList.drop (j + 1) from by rw [hdw, ← hj]; exact hat)
                clear hsp hgap hgf hsb hg1 hg2 hdw hat hj
                by_cases h62 : s[j] = 62
                · have h62b : ((s[j].toNat : Int) == 62) = true := by rw [h62]; decide
                  have HTC : Hid (T = some (al, slashF ((s.toList.drop i).take k), s.toList.drop (j + 1))) := by
                    show _ = _
                    rw [← HT.out, tagsF_close (by rw [HDW.out, h62]), HTW.out]
                  have hx2 : wr.cell? ⟨X, 2, none⟩ = some sl := HW.out.mark.cell (j := 2) rfl
                  have hx3 : wr.cell? ⟨X, 3, none⟩ = some (.bool false) := HW.out.mark.cell (j := 3) rfl
                  have hfx3 : wr.frozen? ⟨X, 3, none⟩ = false := HW.out.mark.frozen (j := 3) (by simp [xV])
                  obtain ⟨a, c, rfl, -⟩ := own_at HW.out.own
                  have hlt := HW.out.lt
                  have hXC : C ≠ X := by omega
                  have hXR : w.heap.size ≠ X := by omega
                  obtain ⟨⟨q0, q1, q2, q3, q4⟩, f0, f1, f2, f3, f4⟩ := res_cells HW.out.zero
                  have hpj : (s.size : Int) - ((s.toList.drop (j + 1)).length : Nat) = ((j + 1 : Nat) : Int) := by rw [List.length_drop, size_toList]; omega
                  clear h62
                  by_cases h8 : 8 < al.length
                  · have h8b : (8 : Int) < (al.length : Int) := by omega
                    go_wp2_with (go_at_call 94; go_must (refine (HSP.out _).mono ?_; rintro e wx ⟨rfl, rfl⟩))
                    go_region
                    go_wp2_with fail
                    have HPC : Hid (p = (bareM 0, (((j + 1 : Nat) : Int)), 42)) := by
                      show _ = _
                      rw [HP.out, HTC.out]
                      unfold ansF
                      simp only [Bool.false_eq_true, if_false]
                      rw [if_pos h8, hpj]
                    refine bodyPost_ret (results_mark rfl _ _ w.heap.size _ _ _ _ rfl (at_drew (put5_at (res_set HW.out.zero hXR) _ _ _ _ _)) Tryz.underlying46 rfl mark_info) rfl ?_
                    rw [HPC.out]
                    exact ⟨.slice none 0 0, ret_eq rfl, World.ownsRow_nil _ _ _ _, (put5_below (HW.out.below.setCell (by show w.heap.size ≤ X; omega) _) (Nat.le_refl _) _ _ _ _ _).drew⟩
                  · have h8b : ¬ (8 : Int) < (al.length : Int) := by omega
                    go_wp2_with (go_at_call 94; go_must (refine (HSP.out _).mono ?_; rintro e wx ⟨rfl, rfl⟩))
                    have hx0 : wr.cell? ⟨X, 0, none⟩ = some (.int .i64 kd) := HW.out.mark.cell (j := 0) rfl
                    have hx1 : wr.cell? ⟨X, 1, none⟩ = some (.string (strB nmL)) := HW.out.mark.cell (j := 1) rfl
                    have hx4 : wr.cell? ⟨X, 4, none⟩ = some (.string ⟨#[]⟩) := HW.out.mark.cell (j := 4) rfl
                    go_region
                    go_wp2_with fail
                    have HPC : Hid (p = (⟨2, nmL, al, slashF ((s.toList.drop i).take k), []⟩, (((j + 1 : Nat) : Int)), 0)) := by
                      show _ = _
                      rw [HP.out, HTC.out]
                      unfold ansF
                      simp only [Bool.false_eq_true, if_false]
                      rw [if_neg h8, hpj]
                    refine bodyPost_ret (results_mark rfl _ _ w.heap.size _ _ _ _ rfl (at_drew (put5_at (res_set HW.out.zero hXR) _ _ _ _ _)) Tryz.underlying46 rfl mark_info) rfl ?_
                    rw [HPC.out]
                    obtain rfl : kd = 2 := HKD.out
                    refine ⟨.slice a al.length c, ret_eq rfl, ?_, (put5_below (HW.out.below.setCell (by show w.heap.size ≤ X; omega) _) (Nat.le_refl _) _ _ _ _ _).drew⟩
                    refine own_base (base := X + 1) (own_kept HW.out.own fun g hg => ?_) (by omega)
                    have hgl := (HW.out.own.lt g hg).1
                    rw [heap_drew', put5_other (by omega), heap_setCell_other _ _ _ _ (by show g ≠ X; omega)]
                · have h62b : ((s[j].toNat : Int) == 62) = false := by
                    rw [show ((62 : Int)) = (((62 : UInt8).toNat : Nat) : Int) from rfl, ← ueq]
                    simpa using h62
                  have hij : i ≤ j := by have := HJ.out; omega
                  obtain ⟨A, hA⟩ : ∃ A, A = wr.heap.size := ⟨_, rfl⟩
                  have HA0 := Lib.hid (heap_alloc_new wr (.cells #[.string ⟨#[]⟩, .string ⟨#[]⟩] 56))
                  have HWA := Lib.hid (HW.out.calm ((Below.refl wr.heap.size wr).alloc (Nat.le_refl _) (.cells #[.string ⟨#[]⟩, .string ⟨#[]⟩] 56)))
                  have hzA : wr.heap.size < (wr.alloc (.cells #[.string ⟨#[]⟩, .string ⟨#[]⟩] 56)).heap.size := by simp
                  have hlt := HW.out.lt
                  have hCR : w.heap.size ≠ C := by omega
                  have hownA : ∀ g, sl.ownBlock = some g → g < A := fun g hg => by rw [hA]; exact (HW.out.own.lt g hg).2
                  have hXA : X < A := by omega
                  have HOA := Lib.hid hownA
                  go_wp2_with (go_at_call 94; go_must (refine (HSP.out _).mono ?_; rintro e wx ⟨rfl, rfl⟩))
                  clear hc1 hf1 hownA
                  generalize wr.alloc (.cells #[.string ⟨#[]⟩, .string ⟨#[]⟩] 56) = wA at *
                  rw [← hA] at HA0 hzA ⊢
                  clear hA
                  have hCA : A ≠ C := by omega
                  have hAR : w.heap.size ≠ A := by omega
                  cases ha : attrF (s[j] :: s.toList.drop (j + 1)) with
                  | none =>
                    have HTN : Hid (T = none) := by
                      show _ = _
                      rw [← HT.out, tagsF_bad HDW.out h62 ha]
                    refine (attr_fail s C j wA HWA.out.cur hjs (by omega) (by rw [list_at s j hjs]; exact ha)).mono ?_
                    rintro r W1 ⟨⟨a1, a2, rfl⟩, hkk⟩
                    have HA1 := Lib.hid (only_zero HA0.out hkk hzA hCA)
                    have HZ1 := Lib.hid (only_zero HWA.out.zero hkk (by have := HWA.out.lt; omega) hCR)
                    have HB1 := Lib.hid (keepsC_below HWA.out.below hkk (by omega))
                    obtain ⟨⟨a0, a1'⟩, g0, g1⟩ := two_cells HA1.out
                    clear hkk ha
                    dsimp only
                    go_wp2_with fail
                    go_roundw
                    case rel => exact .inr ⟨rfl, HTN.out, res_set (res_set HZ1.out hAR) hAR, (HB1.out.setCell (by show w.heap.size ≤ A; omega) _).setCell (by show w.heap.size ≤ A; omega) _⟩
                    case measure => simp [parM]; omega
                  | some q =>
                    obtain ⟨⟨nm', vl'⟩, r2⟩ := q
                    have HTS := Lib.hid (show T = tagsF (if hasA al nm' then al else al ++ [(nm', vl')]) r2 from by rw [← HT.out, tagsF_next HDW.out h62 ha])
                    have hr2 := attrF_len ha
                    rw [List.length_cons, List.length_drop, size_toList] at hr2
                    refine (attr_ok s C j nm' vl' r2 wA HWA.out.cur hjs (by omega) (by rw [list_at s j hjs]; exact ha)).mono ?_
                    rintro r W1 ⟨rfl, hrr, hkk⟩
                    have HA1 := Lib.hid (only_zero HA0.out hkk hzA hCA)
                    have HW1 := Lib.hid (HWA.out.moved hkk hrr)
                    have hzA1 := Nat.lt_of_lt_of_le hzA hkk.size
                    obtain ⟨⟨a0, a1'⟩, g0, g1⟩ := two_cells HA1.out
                    have HSF := Lib.hid (show r2 = s.toList.drop (s.size - r2.length) from by
                      have h := (attrF_good2 ha).trans (show (s[j] :: s.toList.drop (j + 1)) <:+ s.toList.drop j from by rw [← list_at s j hjs]; exact List.suffix_refl _)
                      exact sufx_drop h)
                    obtain ⟨j2, hj2⟩ : ∃ j2, j2 = s.size - r2.length := ⟨_, rfl⟩
                    rw [← hj2] at HW1 HSF
                    have hjj : j < j2 := by omega
                    have hjs3 : j2 ≤ s.size := by omega
                    obtain ⟨a, c, rfl, -⟩ := own_at HW1.out.own
                    have hx2 : W1.cell? ⟨X, 2, none⟩ = some (.slice a al.length c) := HW1.out.mark.cell (j := 2) rfl
                    have hfx2 : W1.frozen? ⟨X, 2, none⟩ = false := HW1.out.mark.frozen (j := 2) (by simp [xV])
                    have hAX : A ≠ X := by omega
                    have HW2 : Hid (PW w s w.heap.size C X j2 kd nmL (.slice a al.length c) false al (put2 W1 A (.string (strB nm')) (.string (strB vl')))) :=
                      HW1.out.above hXA (Nat.le_of_lt hzA1) HOA.out (((Below.refl A W1).setCell (Nat.le_refl _) _).setCell (Nat.le_refl _) _ |> fun h => by
                        have hs := Nat.le_of_lt hzA1
                        exact ⟨h.os, h.tape, h.output, h.size, h.block⟩)
                    have HA2 : Hid ((put2 W1 A (.string (strB nm')) (.string (strB vl'))).heap[A]? = some (.cells #[.string (strB nm'), .string (strB vl')] 56 (0, 0))) := put2_at HA1.out _ _
                    have hzA2 : A < (put2 W1 A (.string (strB nm')) (.string (strB vl'))).heap.size := by simpa using hzA1
                    have HAT : Hid (At (put2 W1 A (.string (strB nm')) (.string (strB vl'))) a (pairsV (attP al))) := by
                      obtain ⟨a', c', he, -, -, -, hat⟩ := own_at HW2.out.own
                      cases he
                      exact hat
                    clear hkk hrr ha hj2
                    dsimp only
                    go_wp2_with fail
                    refine (has_any al a c (strB nm') _ HAT.out (by omega)).mono ?_
                    rintro r W3 ⟨rfl, hb⟩
                    rw [toList_strB]
                    have HW3 := Lib.hid (HW2.out.calm hb)
                    have HA3 := Lib.hid (zero_below HA2.out hb hzA2)
                    have hzA3 := Nat.lt_of_lt_of_le hzA2 hb.size
                    clear hb
                    cases hh : hasA al nm'
                    · rw [hh, if_neg (by simp)] at HTS
                      clear hh
                      have hx2 : W3.cell? ⟨X, 2, none⟩ = some (.slice a al.length c) := HW3.out.mark.cell (j := 2) rfl
                      have hfx2 : W3.frozen? ⟨X, 2, none⟩ = false := HW3.out.mark.frozen (j := 2) (by simp [xV])
                      obtain ⟨⟨a0, a1'⟩, g0, g1⟩ := two_cells HA3.out
                      have HN := Lib.hid (news_two (w := W3) rfl (.string (strB nm')) (.string (strB vl')) 56)
                      have HW4 := Lib.hid (HW3.out.calm ((Below.refl W3.heap.size W3).alloc (Nat.le_refl _) (.cells #[.string (strB nm'), .string (strB vl')] 56)))
                      have hz4 : X + 1 ≤ (W3.alloc (.cells #[.string (strB nm'), .string (strB vl')] 56)).heap.size := by have := HW4.out.lt; omega
                      obtain ⟨i0', hi, hz0, hz1, hz2⟩ := info_parts info_attr
                      have hb1 : al.length + 1 ≤ maxLen := by unfold maxLen; omega
                      have hb2 : (al.length + 1) * 32 ≤ 140737488355328 := by omega
                      have hal2 : al.length + 1 ≤ j2 := by omega
                      dsimp only
                      go_wp2_with (at_builtin; go_must (refine wpList_append_own _ rfl _ _ 44 rfl (X + 1) 56 i0' _ 2 32 Tryz.underlying44 hi hz0 hz1 hz2 rfl (by decide) _ al.length _ rfl HW4.out.own _ 1 1 [.string (strB nm'), .string (strB vl')] rfl rfl HN.out (two_one (strB nm', strB vl')) hb1 hb2 hz4 ?_; intro v5 w5 hown5 hgr5 _; obtain ⟨g5, cap5, hv5, -, -, -⟩ := own_some hown5 (Nat.succ_pos _); subst hv5; rw [← attP_push al (nm', vl')] at hown5; have hx5 : w5.cell? ⟨X, 2, none⟩ = some (.slice a al.length c) := (HW4.out.mark.kept (HW4.out.still hgr5 (Nat.le_refl _))).cell (j := 2) rfl; have hfx5 : w5.frozen? ⟨X, 2, none⟩ = false := (HW4.out.mark.kept (HW4.out.still hgr5 (Nat.le_refl _))).frozen (j := 2) (by simp [xV]); have HW5 := Lib.hid (HW4.out.pushed (al' := al ++ [(nm', vl')]) hgr5 (by rw [List.length_append]; exact hown5)); clear hown5 hgr5))
                      go_roundw
                      case rel => exact .inl ⟨j2, al ++ [(nm', vl')], _, rfl, hjs3, by rw [List.length_append]; exact hal2, HW5.out, by rw [← HSF.out]; exact HTS.out.symm⟩
                      case measure =>
                        show 1 + (s.size - curAt _ _) < 1 + (s.size - curAt _ _)
                        rw [HCO.out, curAt_row HW5.out.cur]
                        omega
                    · rw [hh, if_pos rfl] at HTS
                      dsimp only
                      go_wp2_with fail
                      go_roundw
                      case rel => exact .inl ⟨j2, al, _, rfl, hjs3, by omega, HW3.out, by rw [← HSF.out]; exact HTS.out.symm⟩
                      case measure =>
                        have hj := HJ.out
                        show 1 + (s.size - curAt _ _) < 1 + (s.size - curAt _ _)
                        rw [HCO.out, curAt_row HW3.out.cur]
                        omega
            · obtain rfl : k = n := by omega
              have hjs2 : ¬ (j : Int) < (s.size : Int) := by omega
              have hjb : ((j : Int) == (s.size : Int)) = true := by rw [beq_iff_eq]; omega
              have HTN : Hid (T = none) := by
                show _ = _
                rw [← HT.out]
                exact tagsF_end (by rw [hdw, ← hj, List.drop_of_length_le (by rw [size_toList]; omega)])
              have HZ := Lib.hid HW.out.zero
              have HB := Lib.hid HW.out.below
              clear hdw hg1 hg2 hj
              -- no end: the result stays as it was
              obtain ⟨⟨q0, q1, q2, q3, q4⟩, f0, f1, f2, f3, f4⟩ := res_cells HZ.out
              go_wp2_with fail
              refine bodyPost_ret (results_mark rfl _ _ w.heap.size _ _ _ _ rfl (put5_at HZ.out _ _ _ _ _) Tryz.underlying46 rfl mark_info) rfl ?_
              rw [HP.out, HTN.out]
              exact ⟨.slice none 0 0, ret_eq rfl, World.ownsRow_nil _ _ _ _, (((((HB.out.setCell (Nat.le_refl _) _).setCell (Nat.le_refl _) _).setCell (Nat.le_refl _) _).setCell (Nat.le_refl _) _).setCell (Nat.le_refl _) _)⟩
        · have HZ := Lib.hid hz
          have HB := Lib.hid hb
          have HTN := Lib.hid hT
          clear hz hb hT
          -- no end: the result stays as it was
          obtain ⟨⟨q0, q1, q2, q3, q4⟩, f0, f1, f2, f3, f4⟩ := res_cells HZ.out
          go_wp2_with fail
          refine bodyPost_ret (results_mark rfl _ _ w.heap.size _ _ _ _ rfl (put5_at HZ.out _ _ _ _ _) Tryz.underlying46 rfl mark_info) rfl ?_
          rw [HP.out, HTN.out]
          exact ⟨.slice none 0 0, ret_eq rfl, World.ownsRow_nil _ _ _ _, (((((HB.out.setCell (Nat.le_refl _) _).setCell (Nat.le_refl _) _).setCell (Nat.le_refl _) _).setCell (Nat.le_refl _) _).setCell (Nat.le_refl _) _)⟩
  · simp only [if_true] at hp h2
    have HW := Lib.hid (PW.start w s 2 3)
    rw [show ((2 : Nat) : Int) = 2 from rfl] at HW
    go_enter Tryz.func69, Tryz.ntmps69
    go_wp2_with fail
    generalize (((w.alloc (.cells #[.int .i64 0, .string ⟨#[]⟩, .slice none 0 0, .bool false, .string ⟨#[]⟩] 46)).alloc (.cells #[.string s, .int .i64 2] 129)).alloc (.cells #[.int .i64 3, .string ⟨#[]⟩, .slice none 0 0, .bool false, .string ⟨#[]⟩] 46)) = W0 at *
    generalize hC : w.heap.size + 1 = C at *
    generalize hX : C + 1 = X at *
    clear hC hX
    obtain ⟨i0, hi0⟩ : ∃ i0, i0 = 2 := ⟨_, rfl⟩
    obtain ⟨kd, hkd⟩ : ∃ kd : Int, kd = 3 := ⟨_, rfl⟩
    rw [← hi0] at hp h2 HW
    rw [← hkd] at HW
    have HKD := Lib.hid hkd
    clear hi0 hkd
    rcases until_cases signT (s.toList.drop i0) with ⟨hu, _⟩ | ⟨k, hk, hu, _⟩
    · rw [hu] at hp
      simp only at hp
      obtain ⟨T, hT⟩ : ∃ T : Option (List (Str × Str) × Bool × Str), T = none := ⟨_, rfl⟩
      rw [← hT] at hp
      obtain ⟨nmL, hnm⟩ : ∃ nmL : Str, nmL = [] := ⟨_, rfl⟩
      rw [← hnm] at hp
      have HP := Lib.hid hp
      refine (until_no s ⟨#[9, 10, 12, 32, 47, 62]⟩ C i0 W0 HW.out.cur h2 (by omega) (by decide) (ascii_of (l := signT) (by decide)) (by decide) (by rw [ByteArray.toList_eq (⟨#[9, 10, 12, 32, 47, 62]⟩ : ByteArray)]; exact hu)).mono ?_
      rintro r W1 ⟨rfl, hb⟩
      replace HW := Lib.hid (HW.out.calm hb)
      clear hb hu hp
      dsimp only
      go_wp2_with fail
      refine (small_any ⟨#[]⟩ _ (by decide)).mono ?_
      rintro r W2 ⟨rfl, hb⟩
      replace HW := Lib.hid (HW.out.calm hb)
      rw [show lowS (⟨#[]⟩ : ByteArray).toList = nmL from by rw [hnm, ByteArray.toList_eq]; rfl]
      have hf1 : W2.frozen? ⟨X, 1, none⟩ = false := HW.out.mark.frozen (j := 1) (by simp [xV])
      have hx1 : W2.cell? ⟨X, 1, none⟩ = some (.string (strB [])) := HW.out.mark.cell (j := 1) rfl
      clear hb hnm
      dsimp only
      go_wp2_with fail
      clear hf1 hx1
      have HZ0 := Lib.hid (HW.out.named (nm' := nmL)).zero
      have HB0 := Lib.hid (HW.out.named (nm' := nmL)).below
      have HTN := Lib.hid hT
      clear hT HW
      go_loopw [10] (fun v wr => v = .bool false ∧ wr.heap[w.heap.size]? = some (.cells zeroMark 46 (0, 0)) ∧ Below w.heap.size w wr) (fun _ _ => 0)
      case atStart => exact ⟨rfl, HZ0.out, HB0.out⟩
      case round =>
        obtain ⟨rfl, hz, hb⟩ := hrel
        have HZ := Lib.hid hz
        have HB := Lib.hid hb
        clear hz hb
        -- no end: the result stays as it was
        obtain ⟨⟨q0, q1, q2, q3, q4⟩, f0, f1, f2, f3, f4⟩ := res_cells HZ.out
        go_wp2_with fail
        refine bodyPost_ret (results_mark rfl _ _ w.heap.size _ _ _ _ rfl (put5_at HZ.out _ _ _ _ _) Tryz.underlying46 rfl mark_info) rfl ?_
        rw [HP.out, HTN.out]
        exact ⟨.slice none 0 0, ret_eq rfl, World.ownsRow_nil _ _ _ _, (((((HB.out.setCell (Nat.le_refl _) _).setCell (Nat.le_refl _) _).setCell (Nat.le_refl _) _).setCell (Nat.le_refl _) _).setCell (Nat.le_refl _) _)⟩
    · rw [hu] at hp
      simp only at hp
      rw [List.length_drop, size_toList] at hk
      rw [List.drop_drop] at hu hp
      obtain ⟨t, ht⟩ : ∃ t : Str, t = (s.toList.drop i0).take k := ⟨_, rfl⟩
      obtain ⟨T, hT⟩ : ∃ T : Option (List (Str × Str) × Bool × Str), T = tagsF [] (s.toList.drop (i0 + k)) := ⟨_, rfl⟩
      rw [← hT, ← ht] at hp
      obtain ⟨nmL, hnm⟩ : ∃ nmL : Str, nmL = lowS t := ⟨_, rfl⟩
      rw [← hnm] at hp
      have HP := Lib.hid hp
      have htl : t.length ≤ s.size := by rw [ht, List.length_take, List.length_drop, size_toList]; omega
      refine (until_yes s ⟨#[9, 10, 12, 32, 47, 62]⟩ C i0 k W0 HW.out.cur (by omega) (by omega) (by decide) (ascii_of (l := signT) (by decide)) (by decide) (by rw [ByteArray.toList_eq (⟨#[9, 10, 12, 32, 47, 62]⟩ : ByteArray)]; exact hu)).mono ?_
      rw [← ht]
      rintro r W1 ⟨rfl, hrr, hkk⟩
      replace HW := Lib.hid (HW.out.moved hkk hrr)
      clear hrr hkk hu hp ht
      dsimp only
      go_wp2_with fail
      refine (small_any (strB t) _ (by rw [strB_size]; unfold maxLen; omega)).mono ?_
      rintro r W2 ⟨rfl, hb⟩
      replace HW := Lib.hid (HW.out.calm hb)
      rw [show lowS (strB t).toList = nmL from by rw [hnm, toList_strB]]
      have hf1 : W2.frozen? ⟨X, 1, none⟩ = false := HW.out.mark.frozen (j := 1) (by simp [xV])
      have hx1 : W2.cell? ⟨X, 1, none⟩ = some (.string (strB [])) := HW.out.mark.cell (j := 1) rfl
      clear hb hnm
      dsimp only
      go_wp2_with fail
      clear hf1 hx1
      have HIN : Hid ((∃ (i : Nat) (al : List (Str × Str)) (sl : Value), (Value.bool true) = .bool true ∧ i ≤ s.size ∧ al.length ≤ i ∧ PW w s w.heap.size C X i kd nmL sl false al (W2.setCell ⟨X, 1, none⟩ (.string (strB nmL))) ∧ tagsF al (s.toList.drop i) = T) ∨ ((Value.bool true) = .bool false ∧ T = none ∧ (W2.setCell ⟨X, 1, none⟩ (.string (strB nmL))).heap[w.heap.size]? = some (.cells zeroMark 46 (0, 0)) ∧ Below w.heap.size w (W2.setCell ⟨X, 1, none⟩ (.string (strB nmL))))) :=
        .inl ⟨i0 + k, [], _, rfl, by omega, Nat.zero_le _, HW.out.named, hT.symm⟩
      clear hT HW
      -- HW : PW .. at the loop; HIN : (ok and the text's rest) or the end
      go_loopw [10] (fun v wr => (∃ (i : Nat) (al : List (Str × Str)) (sl : Value), v = .bool true ∧ i ≤ s.size ∧ al.length ≤ i ∧ PW w s w.heap.size C X i kd nmL sl false al wr ∧ tagsF al (s.toList.drop i) = T) ∨ (v = .bool false ∧ T = none ∧ wr.heap[w.heap.size]? = some (.cells zeroMark 46 (0, 0)) ∧ Below w.heap.size w wr)) (fun v wr => parM s C v wr)
      case atStart => exact HIN.out
      case round =>
        rcases hrel with ⟨i, al, sl, rfl, his, hal, hw, hT⟩ | ⟨rfl, hT, hz, hb⟩
        · have HW := Lib.hid hw
          have HT := Lib.hid hT
          have HCO := Lib.hid (curAt_row hw.cur)
          obtain ⟨n, hn, htw, hdw, hg1, hg2⟩ := while_split gapB (s.toList.drop i)
          have HTW := Lib.hid htw
          clear htw
          rw [List.length_drop, size_toList] at hn
          rw [List.drop_drop] at hdw hg2
          clear hw hT
          obtain ⟨wo, rfl⟩ : ∃ wo : World, wo = wr := ⟨_, rfl⟩
          go_wp2_with fail
          go_loopw [11] (fun v wi => ∃ k : Nat, k ≤ n ∧ v = .bool (slashF ((s.toList.drop i).take k)) ∧ PW w s w.heap.size C X (i + k) kd nmL sl false al wi) (fun _ wi => s.size - curAt wi C)
          case atStart => exact ⟨0, Nat.zero_le _, rfl, HW.out⟩
          case round =>
            obtain ⟨k, hk, rfl, hw⟩ := hrel
            obtain ⟨j, hj⟩ : ∃ j, j = i + k := ⟨_, rfl⟩
            rw [← hj] at hw
            have hc1 : wr.cell? ⟨C, 1, none⟩ = some (.int .i64 j) := hw.cur.cell (j := 1) rfl
            have hf1 : wr.frozen? ⟨C, 1, none⟩ = false := hw.cur.frozen (j := 1) (by simp [curV])
            have HCA := Lib.hid (curAt_row hw.cur)
            have HJ := Lib.hid hj
            clear HW
            have HW := Lib.hid hw
            clear hw
            by_cases hjs : j < s.size
            · have hjs2 : (j : Int) < (s.size : Int) := by omega
              have hat := list_at s j hjs
              have hjb : ((j : Int) == (s.size : Int)) = false := by rw [beq_eq_false_iff_ne]; omega
              have hu := s[j].toNat_lt
              have hsp := fun u => space_any s[j] u
              have hgap : gapB s[j] = (spaceB s[j] || ((s[j].toNat : Int) == 47)) := by
                unfold gapB
                rw [show ((47 : Int)) = (((47 : UInt8).toNat : Nat) : Int) from rfl, ← ueq]
              by_cases hkn : k < n
              · have hgt : gapB s[j] = true := by
                  refine hg1 _ ?_
                  have : ((s.toList.drop i).take n)[k]? = some s[j] := by
                    rw [List.getElem?_take_of_lt hkn, List.getElem?_drop, ← hj, ByteArray.toList_eq, Lib.data_getElem? s j hjs]
                  exact List.mem_of_getElem? this
                rw [hgt] at hgap
                have HSL : Hid (slashF ((s.toList.drop i).take (k + 1)) = ((s[j].toNat : Int) == 47)) := by
                  show _ = _
                  have hlen : k < (s.toList.drop i).length := by rw [List.length_drop, size_toList]; omega
                  rw [slash_step _ k hlen, List.getElem_drop]
                  simp only [← hj]
                  rw [byte_at s j hjs]
                cases h47 : ((s[j].toNat : Int) == 47)
                · rw [h47, Bool.or_false] at hgap
                  rw [← hgap] at hsp
                  have HSP := Lib.hid hsp
                  rw [h47] at HSL
                  clear hsp hat hgap hgt hj hg1 hg2
                  go_wp2_with (go_at_call 94; go_must (refine (HSP.out _).mono ?_; rintro e wx ⟨rfl, rfl⟩))
                  go_roundw
                  case rel =>
                    have hj := HJ.out
                    refine ⟨k + 1, by omega, by rw [HSL.out], ?_⟩
                    have h := HW.out.cur.set 1 (.int .i64 ((j : Int) + 1))
                    rw [cur_set s j (i + (k + 1)) (by omega)] at h
                    exact HW.out.moved (keep_set (Keeps.refl _ _) _) h
                  case measure =>
                    have h := HW.out.cur.set 1 (.int .i64 ((j : Int) + 1))
                    rw [cur_set s j (j + 1) (by omega)] at h
                    rw [HCA.out, curAt_row h]
                    omega
                · rw [h47] at HSL
                  generalize spaceB s[j] = sp at *
                  have HSP := Lib.hid hsp
                  clear hsp hat hgap hgt hj hg1 hg2
                  go_wp2_with (go_at_call 94; go_must (refine (HSP.out _).mono ?_; rintro e wx ⟨rfl, rfl⟩))
                  all_goals
                    go_roundw
                    case rel =>
                      have hj := HJ.out
                      refine ⟨k + 1, by omega, by rw [HSL.out], ?_⟩
                      have h := HW.out.cur.set 1 (.int .i64 ((j : Int) + 1))
                      rw [cur_set s j (i + (k + 1)) (by omega)] at h
                      exact HW.out.moved (keep_set (Keeps.refl _ _) _) h
                    case measure =>
                      have h := HW.out.cur.set 1 (.int .i64 ((j : Int) + 1))
                      rw [cur_set s j (j + 1) (by omega)] at h
                      rw [HCA.out, curAt_row h]
                      omega
              · obtain rfl : k = n := by omega
                have hgf : gapB s[j] = false := hg2 _ _ (by rw [← hj]; exact hat)
                rw [hgf] at hgap
                have hsb : spaceB s[j] = false := by cases h : spaceB s[j] <;> rw [h] at hgap <;> first | rfl | cases hgap
                have h47 : ((s[j].toNat : Int) == 47) = false := by cases h : ((s[j].toNat : Int) == 47) <;> rw [h] at hgap <;> first | rfl | (rw [Bool.or_true] at hgap; cases hgap)
                rw [hsb] at hsp
                have HSP := Lib.hid hsp
                have HDW := Lib.hid (show (s.toList.drop i).dropWhile gapB = s[j] :: s.toList.drop (j + 1) from by rw [hdw, ← hj]; exact hat)
                clear hsp hgap hgf hsb hg1 hg2 hdw hat hj
                by_cases h62 : s[j] = 62
                · have h62b : ((s[j].toNat : Int) == 62) = true := by rw [h62]; decide
                  have HTC : Hid (T = some (al, slashF ((s.toList.drop i).take k), s.toList.drop (j + 1))) := by
                    show _ = _
                    rw [← HT.out, tagsF_close (by rw [HDW.out, h62]), HTW.out]
                  have hx1 : wr.cell? ⟨X, 1, none⟩ = some (.string (strB nmL)) := HW.out.mark.cell (j := 1) rfl
                  have hlt := HW.out.lt
                  obtain ⟨⟨q0, q1, q2, q3, q4⟩, f0, f1, f2, f3, f4⟩ := res_cells HW.out.zero
                  have hpj : (s.size : Int) - ((s.toList.drop (j + 1)).length : Nat) = ((j + 1 : Nat) : Int) := by rw [List.length_drop, size_toList]; omega
                  clear h62
                  go_wp2_with (go_at_call 94; go_must (refine (HSP.out _).mono ?_; rintro e wx ⟨rfl, rfl⟩))
                  go_region
                  go_wp2_with fail
                  have HPC : Hid (p = (⟨3, nmL, [], false, []⟩, (((j + 1 : Nat) : Int)), 0)) := by
                    show _ = _
                    rw [HP.out, HTC.out]
                    unfold ansF
                    simp only [if_true]
                    rw [hpj]
                  refine bodyPost_ret (results_mark rfl _ _ w.heap.size _ _ _ _ rfl (at_drew (put5_at HW.out.zero _ _ _ _ _)) Tryz.underlying46 rfl mark_info) rfl ?_
                  rw [HPC.out]
                  exact ⟨.slice none 0 0, ret_eq rfl, World.ownsRow_nil _ _ _ _, (put5_below HW.out.below (Nat.le_refl _) _ _ _ _ _).drew⟩
                · have h62b : ((s[j].toNat : Int) == 62) = false := by
                    rw [show ((62 : Int)) = (((62 : UInt8).toNat : Nat) : Int) from rfl, ← ueq]
                    simpa using h62
                  have hij : i ≤ j := by have := HJ.out; omega
                  obtain ⟨A, hA⟩ : ∃ A, A = wr.heap.size := ⟨_, rfl⟩
                  have HA0 := Lib.hid (heap_alloc_new wr (.cells #[.string ⟨#[]⟩, .string ⟨#[]⟩] 56))
                  have HWA := Lib.hid (HW.out.calm ((Below.refl wr.heap.size wr).alloc (Nat.le_refl _) (.cells #[.string ⟨#[]⟩, .string ⟨#[]⟩] 56)))
                  have hzA : wr.heap.size < (wr.alloc (.cells #[.string ⟨#[]⟩, .string ⟨#[]⟩] 56)).heap.size := by simp
                  have hlt := HW.out.lt
                  have hCR : w.heap.size ≠ C := by omega
                  have hownA : ∀ g, sl.ownBlock = some g → g < A := fun g hg => by rw [hA]; exact (HW.out.own.lt g hg).2
                  have hXA : X < A := by omega
                  have HOA := Lib.hid hownA
                  go_wp2_with (go_at_call 94; go_must (refine (HSP.out _).mono ?_; rintro e wx ⟨rfl, rfl⟩))
                  clear hc1 hf1 hownA
                  generalize wr.alloc (.cells #[.string ⟨#[]⟩, .string ⟨#[]⟩] 56) = wA at *
                  rw [← hA] at HA0 hzA ⊢
                  clear hA
                  have hCA : A ≠ C := by omega
                  have hAR : w.heap.size ≠ A := by omega
                  cases ha : attrF (s[j] :: s.toList.drop (j + 1)) with
                  | none =>
                    have HTN : Hid (T = none) := by
                      show _ = _
                      rw [← HT.out, tagsF_bad HDW.out h62 ha]
                    refine (attr_fail s C j wA HWA.out.cur hjs (by omega) (by rw [list_at s j hjs]; exact ha)).mono ?_
                    rintro r W1 ⟨⟨a1, a2, rfl⟩, hkk⟩
                    have HA1 := Lib.hid (only_zero HA0.out hkk hzA hCA)
                    have HZ1 := Lib.hid (only_zero HWA.out.zero hkk (by have := HWA.out.lt; omega) hCR)
                    have HB1 := Lib.hid (keepsC_below HWA.out.below hkk (by omega))
                    obtain ⟨⟨a0, a1'⟩, g0, g1⟩ := two_cells HA1.out
                    clear hkk ha
                    dsimp only
                    go_wp2_with fail
                    go_roundw
                    case rel => exact .inr ⟨rfl, HTN.out, res_set (res_set HZ1.out hAR) hAR, (HB1.out.setCell (by show w.heap.size ≤ A; omega) _).setCell (by show w.heap.size ≤ A; omega) _⟩
                    case measure => simp [parM]; omega
                  | some q =>
                    obtain ⟨⟨nm', vl'⟩, r2⟩ := q
                    have HTS := Lib.hid (show T = tagsF (if hasA al nm' then al else al ++ [(nm', vl')]) r2 from by rw [← HT.out, tagsF_next HDW.out h62 ha])
                    have hr2 := attrF_len ha
                    rw [List.length_cons, List.length_drop, size_toList] at hr2
                    refine (attr_ok s C j nm' vl' r2 wA HWA.out.cur hjs (by omega) (by rw [list_at s j hjs]; exact ha)).mono ?_
                    rintro r W1 ⟨rfl, hrr, hkk⟩
                    have HA1 := Lib.hid (only_zero HA0.out hkk hzA hCA)
                    have HW1 := Lib.hid (HWA.out.moved hkk hrr)
                    have hzA1 := Nat.lt_of_lt_of_le hzA hkk.size
                    obtain ⟨⟨a0, a1'⟩, g0, g1⟩ := two_cells HA1.out
                    have HSF := Lib.hid (show r2 = s.toList.drop (s.size - r2.length) from by
                      have h := (attrF_good2 ha).trans (show (s[j] :: s.toList.drop (j + 1)) <:+ s.toList.drop j from by rw [← list_at s j hjs]; exact List.suffix_refl _)
                      exact sufx_drop h)
                    obtain ⟨j2, hj2⟩ : ∃ j2, j2 = s.size - r2.length := ⟨_, rfl⟩
                    rw [← hj2] at HW1 HSF
                    have hjj : j < j2 := by omega
                    have hjs3 : j2 ≤ s.size := by omega
                    obtain ⟨a, c, rfl, -⟩ := own_at HW1.out.own
                    have hx2 : W1.cell? ⟨X, 2, none⟩ = some (.slice a al.length c) := HW1.out.mark.cell (j := 2) rfl
                    have hfx2 : W1.frozen? ⟨X, 2, none⟩ = false := HW1.out.mark.frozen (j := 2) (by simp [xV])
                    have hAX : A ≠ X := by omega
                    have HW2 : Hid (PW w s w.heap.size C X j2 kd nmL (.slice a al.length c) false al (put2 W1 A (.string (strB nm')) (.string (strB vl')))) :=
                      HW1.out.above hXA (Nat.le_of_lt hzA1) HOA.out (((Below.refl A W1).setCell (Nat.le_refl _) _).setCell (Nat.le_refl _) _ |> fun h => by
                        have hs := Nat.le_of_lt hzA1
                        exact ⟨h.os, h.tape, h.output, h.size, h.block⟩)
                    have HA2 : Hid ((put2 W1 A (.string (strB nm')) (.string (strB vl'))).heap[A]? = some (.cells #[.string (strB nm'), .string (strB vl')] 56 (0, 0))) := put2_at HA1.out _ _
                    have hzA2 : A < (put2 W1 A (.string (strB nm')) (.string (strB vl'))).heap.size := by simpa using hzA1
                    have HAT : Hid (At (put2 W1 A (.string (strB nm')) (.string (strB vl'))) a (pairsV (attP al))) := by
                      obtain ⟨a', c', he, -, -, -, hat⟩ := own_at HW2.out.own
                      cases he
                      exact hat
                    clear hkk hrr ha hj2
                    dsimp only
                    go_wp2_with fail
                    refine (has_any al a c (strB nm') _ HAT.out (by omega)).mono ?_
                    rintro r W3 ⟨rfl, hb⟩
                    rw [toList_strB]
                    have HW3 := Lib.hid (HW2.out.calm hb)
                    have HA3 := Lib.hid (zero_below HA2.out hb hzA2)
                    have hzA3 := Nat.lt_of_lt_of_le hzA2 hb.size
                    clear hb
                    cases hh : hasA al nm'
                    · rw [hh, if_neg (by simp)] at HTS
                      clear hh
                      have hx2 : W3.cell? ⟨X, 2, none⟩ = some (.slice a al.length c) := HW3.out.mark.cell (j := 2) rfl
                      have hfx2 : W3.frozen? ⟨X, 2, none⟩ = false := HW3.out.mark.frozen (j := 2) (by simp [xV])
                      obtain ⟨⟨a0, a1'⟩, g0, g1⟩ := two_cells HA3.out
                      have HN := Lib.hid (news_two (w := W3) rfl (.string (strB nm')) (.string (strB vl')) 56)
                      have HW4 := Lib.hid (HW3.out.calm ((Below.refl W3.heap.size W3).alloc (Nat.le_refl _) (.cells #[.string (strB nm'), .string (strB vl')] 56)))
                      have hz4 : X + 1 ≤ (W3.alloc (.cells #[.string (strB nm'), .string (strB vl')] 56)).heap.size := by have := HW4.out.lt; omega
                      obtain ⟨i0', hi, hz0, hz1, hz2⟩ := info_parts info_attr
                      have hb1 : al.length + 1 ≤ maxLen := by unfold maxLen; omega
                      have hb2 : (al.length + 1) * 32 ≤ 140737488355328 := by omega
                      have hal2 : al.length + 1 ≤ j2 := by omega
                      dsimp only
                      go_wp2_with (at_builtin; go_must (refine wpList_append_own _ rfl _ _ 44 rfl (X + 1) 56 i0' _ 2 32 Tryz.underlying44 hi hz0 hz1 hz2 rfl (by decide) _ al.length _ rfl HW4.out.own _ 1 1 [.string (strB nm'), .string (strB vl')] rfl rfl HN.out (two_one (strB nm', strB vl')) hb1 hb2 hz4 ?_; intro v5 w5 hown5 hgr5 _; obtain ⟨g5, cap5, hv5, -, -, -⟩ := own_some hown5 (Nat.succ_pos _); subst hv5; rw [← attP_push al (nm', vl')] at hown5; have hx5 : w5.cell? ⟨X, 2, none⟩ = some (.slice a al.length c) := (HW4.out.mark.kept (HW4.out.still hgr5 (Nat.le_refl _))).cell (j := 2) rfl; have hfx5 : w5.frozen? ⟨X, 2, none⟩ = false := (HW4.out.mark.kept (HW4.out.still hgr5 (Nat.le_refl _))).frozen (j := 2) (by simp [xV]); have HW5 := Lib.hid (HW4.out.pushed (al' := al ++ [(nm', vl')]) hgr5 (by rw [List.length_append]; exact hown5)); clear hown5 hgr5))
                      go_roundw
                      case rel => exact .inl ⟨j2, al ++ [(nm', vl')], _, rfl, hjs3, by rw [List.length_append]; exact hal2, HW5.out, by rw [← HSF.out]; exact HTS.out.symm⟩
                      case measure =>
                        show 1 + (s.size - curAt _ _) < 1 + (s.size - curAt _ _)
                        rw [HCO.out, curAt_row HW5.out.cur]
                        omega
                    · rw [hh, if_pos rfl] at HTS
                      dsimp only
                      go_wp2_with fail
                      go_roundw
                      case rel => exact .inl ⟨j2, al, _, rfl, hjs3, by omega, HW3.out, by rw [← HSF.out]; exact HTS.out.symm⟩
                      case measure =>
                        have hj := HJ.out
                        show 1 + (s.size - curAt _ _) < 1 + (s.size - curAt _ _)
                        rw [HCO.out, curAt_row HW3.out.cur]
                        omega
            · obtain rfl : k = n := by omega
              have hjs2 : ¬ (j : Int) < (s.size : Int) := by omega
              have hjb : ((j : Int) == (s.size : Int)) = true := by rw [beq_iff_eq]; omega
              have HTN : Hid (T = none) := by
                show _ = _
                rw [← HT.out]
                exact tagsF_end (by rw [hdw, ← hj, List.drop_of_length_le (by rw [size_toList]; omega)])
              have HZ := Lib.hid HW.out.zero
              have HB := Lib.hid HW.out.below
              clear hdw hg1 hg2 hj
              -- no end: the result stays as it was
              obtain ⟨⟨q0, q1, q2, q3, q4⟩, f0, f1, f2, f3, f4⟩ := res_cells HZ.out
              go_wp2_with fail
              refine bodyPost_ret (results_mark rfl _ _ w.heap.size _ _ _ _ rfl (put5_at HZ.out _ _ _ _ _) Tryz.underlying46 rfl mark_info) rfl ?_
              rw [HP.out, HTN.out]
              exact ⟨.slice none 0 0, ret_eq rfl, World.ownsRow_nil _ _ _ _, (((((HB.out.setCell (Nat.le_refl _) _).setCell (Nat.le_refl _) _).setCell (Nat.le_refl _) _).setCell (Nat.le_refl _) _).setCell (Nat.le_refl _) _)⟩
        · have HZ := Lib.hid hz
          have HB := Lib.hid hb
          have HTN := Lib.hid hT
          clear hz hb hT
          -- no end: the result stays as it was
          obtain ⟨⟨q0, q1, q2, q3, q4⟩, f0, f1, f2, f3, f4⟩ := res_cells HZ.out
          go_wp2_with fail
          refine bodyPost_ret (results_mark rfl _ _ w.heap.size _ _ _ _ rfl (put5_at HZ.out _ _ _ _ _) Tryz.underlying46 rfl mark_info) rfl ?_
          rw [HP.out, HTN.out]
          exact ⟨.slice none 0 0, ret_eq rfl, World.ownsRow_nil _ _ _ _, (((((HB.out.setCell (Nat.le_refl _) _).setCell (Nat.le_refl _) _).setCell (Nat.le_refl _) _).setCell (Nat.le_refl _) _).setCell (Nat.le_refl _) _)⟩
end Go.Proofs.YtbabcohidpcjjaaGreat

/-
  Contract: marks' machine: tag: reads a tag.
-/
namespace Go.Proofs.YtbabcohidpcjjaaGreat
open Go.RowKit Mem

theorem parse_le (s : Str) (e : Bool) : (parseF s e).2.1 ≤ s.length := by
  unfold parseF
  split
  · show (-1 : Int) ≤ _; omega
  · split
    · show (-1 : Int) ≤ _; omega
    · split
      · show (s.length : Int) - _ ≤ _; omega
      · split
        · show (s.length : Int) - _ ≤ _; omega
        · show (s.length : Int) - _ ≤ _; omega
/-- a step's answer in memory: the mark's attributes are the callee's own -/
def OutAt (base : Nat) (o : Out) (r : Ending) (w' : World) : Prop := ∃ sl, r = .returned (.tuple #[markV sl o.1, .bool o.2.1, .bool o.2.2.1]) ∧ w'.ownsRow base 56 2 sl o.1.attrs.length (pairsV (attP o.1.attrs))
theorem own_put5 {W : World} {g base : Nat} {t : TypeId} {size : Nat} {v : Value} {n : Nat} {xs : List Value} (h : W.ownsRow base t size v n xs) (hg : g < base) (v0 v1 v2 v3 v4 : Value) : (put5 W g v0 v1 v2 v3 v4).ownsRow base t size v n xs :=
  own_kept h fun k hk => put5_other (by have := (h.lt k hk).1; omega) _ _ _ _ _
theorem tagF_eq (m : MkM) (e : Bool) (x : MarkD) (n er0 : Int) (hp : parseF (m.buf.take 2049) e = (x, n, er0)) : tagF m e =
    if (if n > 2048 ∨ (n < 0 ∧ 2048 < (m.buf.take 2049).length) then (41 : Int) else er0) ≠ 0 then (noM, false, true, { m with err := (if n > 2048 ∨ (n < 0 ∧ 2048 < (m.buf.take 2049).length) then (41 : Int) else er0), buf := [] })
    else if n < 0 then (noM, false, true, if m.closed then { m with buf := [] } else m)
    else (x, true, false, if e then { m with buf := m.buf.drop n.toNat, mode := 0 } else { m with buf := m.buf.drop n.toNat }) := by
  unfold tagF
  simp only [hp]

theorem alloc_keep {u : World} {o ob : Obj} {g : Nat} (h : u.heap[g]? = some ob) : (u.alloc o).heap[g]? = some ob :=
  (heap_alloc_old u o (Array.getElem?_eq_some_iff.1 h).1).trans h
theorem row_alloc {u : World} {o : Obj} {g : Nat} {xs : List Value} (h : Row u g xs) : Row (u.alloc o) g xs := h.kept (heap_alloc_old u o h.lt)
set_option maxRecDepth 100000 in
set_option maxHeartbeats 4000000 in
theorem tag_any (m : MkM) (b : Nat) (e : Bool) (w : World) (hr : Row w b (machV m)) (hl : m.buf.length ≤ 4294967280) (h2 : (if e then 2 else 1) ≤ m.buf.length) :
    Calls Tryz.prog 54 #[.pointer (some ⟨b, 0, none⟩), .bool e] w fun r w' => OutAt w.heap.size (tagF m e) r w' ∧ Row w' b (machV (tagF m e).2.2.2) ∧ Keeps (Only b) w w' := by
  have hbw := hr.lt
  have hne : w.heap.size ≠ b := by omega
  obtain ⟨o, ho⟩ : ∃ o, o = tagF m e := ⟨_, rfl⟩
  rw [← ho]
  obtain ⟨x, n, er0, hpar⟩ : ∃ x n er0, parseF (m.buf.take 2049) e = (x, n, er0) := ⟨_, _, _, rfl⟩
  rw [tagF_eq m e x n er0 hpar] at ho
  have hnle := parse_le (m.buf.take 2049) e
  rw [hpar] at hnle
  have hnl : n ≤ (m.buf.length : Int) := by
    have : (m.buf.take 2049).length ≤ m.buf.length := by rw [List.length_take]; omega
    simp only at hnle
    omega
  have hz : (strB m.buf).size = m.buf.length := strB_size _
  obtain ⟨k, hk⟩ : ∃ k, k = min m.buf.length 2049 := ⟨_, rfl⟩
  have hmin : min (m.buf.length : Int) 2049 = (k : Int) := by omega
  have hkl : k ≤ m.buf.length := by omega
  have htk : m.buf.take 2049 = m.buf.take k := by
    rw [hk]
    rcases Nat.le_total m.buf.length 2049 with h | h
    · rw [Nat.min_eq_left h, List.take_of_length_le h, List.take_of_length_le (Nat.le_refl _)]
    · rw [Nat.min_eq_right h]
  have hkz : (m.buf.take 2049).length = k := by rw [htk, List.length_take]; omega
  have e1 : (strB m.buf).extract 0 k = strB (m.buf.take 2049) := by rw [htk]; exact strB_cut _ _
  have HPA := Lib.hid (fun u => parse_any (strB (m.buf.take 2049)) e u (by rw [strB_size, hkz]; omega) (by rw [strB_size, hkz]; cases e <;> simp at h2 ⊢ <;> omega))
  rw [toList_strB, hpar] at HPA
  rw [hkz] at ho
  have hsz2 : (strB (m.buf.take 2049)).size = k := by rw [strB_size]; exact hkz
  obtain ⟨wa, hwa⟩ : ∃ wa, wa = w.alloc (.cells zeroMark 46) := ⟨_, rfl⟩
  have HR := Lib.hid (show Row wa b (machV m) from hwa ▸ hr.kept (heap_alloc_old w (.cells zeroMark 46) hbw))
  have HZ := Lib.hid (show wa.heap[w.heap.size]? = some (.cells zeroMark 46 (0, 0)) from hwa ▸ heap_alloc_new _ _)
  have HK := Lib.hid (show Keeps (Only b) w wa from hwa ▸ (Keeps.refl (Only b) w).alloc _)
  have hza : w.heap.size < wa.heap.size := by rw [hwa]; simp
  have HWA : Hid (wa = w.alloc (.cells #[.int .i64 0, .string ⟨#[]⟩, .slice none 0 0, .bool false, .string ⟨#[]⟩] 46)) := hwa
  generalize m.buf.take 2049 = sb at *
  clear hwa hr hpar hnle hk htk hkz h2
  go_enter Tryz.func54, Tryz.ntmps54
  go_wp2_with fail
  rw [← HWA.out]
  have hc0 := (mach_row HR.out).1
  go_region
  have HR1 := Lib.hid (row_drew HR.out)
  have HZ1 := Lib.hid (at_drew HZ.out)
  have HK1 := Lib.hid HK.out.drew
  have hz1 : w.heap.size < wa.drew.heap.size := hza
  generalize wa.drew = wb at *
  clear hc0
  go_wp2_with fail
  refine (HPA.out _).mono ?_
  rintro r W1 ⟨sl, rfl, hown, hb⟩
  obtain ⟨a, c, hsl, -⟩ := own_at hown
  subst hsl
  have HR2 := Lib.hid (HR1.out.below hb HR1.out.lt)
  have HZ2 := Lib.hid (zero_below HZ1.out hb hz1)
  have HK2 := Lib.hid (keeps_then' HK1.out hb)
  have HOW := Lib.hid (own_base hown (show w.heap.size + 1 ≤ wb.heap.size from hz1))
  have hz2 := Nat.lt_of_lt_of_le hz1 hb.size
  clear hown hb
  dsimp only [markV]
  have hbW := HR2.out.lt
  obtain ⟨hc0, -, hc2, hc3, -, -, -, -, -, hc9⟩ := mach_row HR2.out
  obtain ⟨hf0, -, -, hf3, -, -, -, -, -, hf9⟩ := mach_free HR2.out
  obtain ⟨⟨q0, q1, q2, q3, q4⟩, f0, f1, f2, f3, f4⟩ := res_cells HZ2.out
  by_cases hbig : n > 2048 ∨ (n < 0 ∧ 2048 < k)
  · rw [if_pos hbig, if_pos (by decide)] at ho
    have HO := Lib.hid ho
    clear ho
    rcases hbig with hb1 | ⟨hb1, hb2⟩
    · go_wp2_with fail
      refine bodyPost_ret (results_mark rfl _ _ w.heap.size _ _ _ _ rfl (alloc_keep (put5_at (res_set (res_set HZ2.out hne) hne) _ _ _ _ _)) Tryz.underlying46 rfl mark_info) rfl ?_
      rw [HO.out]
      refine ⟨⟨.slice none 0 0, ret_eq rfl, World.ownsRow_nil _ _ _ _⟩, ?_, (put5_keeps (keep_set (keep_set HK2.out _) _) (Nat.le_refl _) _ _ _ _ _).alloc _⟩
      exact row_alloc (put5_row ((HR2.out.set 9 _).set 0 (.string (strB []))) (fun e => hne e.symm) _ _ _ _ _)
    · have hb3 : ¬ n > 2048 := by omega
      have hb4 : (2048 : Int) < (k : Int) := by omega
      go_wp2_with fail
      refine bodyPost_ret (results_mark rfl _ _ w.heap.size _ _ _ _ rfl (alloc_keep (put5_at (res_set (res_set HZ2.out hne) hne) _ _ _ _ _)) Tryz.underlying46 rfl mark_info) rfl ?_
      rw [HO.out]
      refine ⟨⟨.slice none 0 0, ret_eq rfl, World.ownsRow_nil _ _ _ _⟩, ?_, (put5_keeps (keep_set (keep_set HK2.out _) _) (Nat.le_refl _) _ _ _ _ _).alloc _⟩
      exact row_alloc (put5_row ((HR2.out.set 9 _).set 0 (.string (strB []))) (fun e => hne e.symm) _ _ _ _ _)
  · rw [if_neg hbig] at ho
    have hb3 : ¬ n > 2048 := by omega
    have hb5 : n < 0 → ¬ (2048 : Int) < (k : Int) := by omega
    by_cases her : er0 = 0
    · have herb : (er0 == 0) = true := beq_iff_eq.2 her
      rw [if_neg (fun h => h her)] at ho
      by_cases hn : n < 0
      · rw [if_pos hn] at ho
        have hb6 := hb5 hn
        clear hbig hb5
        by_cases hcl : m.closed = true
        · rw [if_pos hcl] at ho
          rw [hcl] at hc2
          have HO := Lib.hid ho
          clear ho hcl
          go_wp2_with fail
          refine bodyPost_ret (results_mark rfl _ _ w.heap.size _ _ _ _ rfl (alloc_keep (put5_at (res_set HZ2.out hne) _ _ _ _ _)) Tryz.underlying46 rfl mark_info) rfl ?_
          rw [HO.out]
          refine ⟨⟨.slice none 0 0, ret_eq rfl, World.ownsRow_nil _ _ _ _⟩, ?_, (put5_keeps (keep_set HK2.out _) (Nat.le_refl _) _ _ _ _ _).alloc _⟩
          exact row_alloc (put5_row (HR2.out.set 0 (.string (strB []))) (fun e => hne e.symm) _ _ _ _ _)
        · have hcl' : m.closed = false := by simpa using hcl
          rw [if_neg hcl] at ho
          rw [hcl'] at hc2
          have HO := Lib.hid ho
          clear ho hcl hcl'
          go_wp2_with fail
          refine bodyPost_ret (results_mark rfl _ _ w.heap.size _ _ _ _ rfl (alloc_keep (put5_at HZ2.out _ _ _ _ _)) Tryz.underlying46 rfl mark_info) rfl ?_
          rw [HO.out]
          exact ⟨⟨.slice none 0 0, ret_eq rfl, World.ownsRow_nil _ _ _ _⟩, row_alloc (put5_row HR2.out (fun e => hne e.symm) _ _ _ _ _), (put5_keeps HK2.out (Nat.le_refl _) _ _ _ _ _).alloc _⟩
      · rw [if_neg hn] at ho
        obtain ⟨N, hN⟩ := Int.eq_ofNat_of_zero_le (by omega : 0 ≤ n)
        subst hN
        have e2 := strB_ext m.buf N
        have hnl2 : N ≤ m.buf.length := by omega
        rw [Int.toNat_natCast] at ho
        clear hbig hb5
        cases e
        · have HO := Lib.hid ho
          clear ho
          go_wp2_with fail
          refine bodyPost_ret (results_mark rfl _ _ w.heap.size _ _ _ _ rfl (alloc_keep (put5_at (res_set HZ2.out hne) _ _ _ _ _)) Tryz.underlying46 rfl mark_info) rfl ?_
          rw [HO.out]
          refine ⟨⟨.slice a x.attrs.length c, ret_eq rfl, World.ownsRow.alloc ?_ _⟩, ?_, (put5_keeps (keep_set HK2.out _) (Nat.le_refl _) _ _ _ _ _).alloc _⟩
          · exact own_base (own_put5 (own_kept HOW.out fun g hg => heap_setCell_other _ _ _ _ (by show g ≠ b; have := (HOW.out.lt g hg).1; omega)) (Nat.lt_succ_self _) _ _ _ _ _) (Nat.le_succ _)
          · exact row_alloc (put5_row (HR2.out.set 0 _) (fun e => hne e.symm) _ _ _ _ _)
        · have HO := Lib.hid ho
          clear ho
          go_wp2_with fail
          refine bodyPost_ret (results_mark rfl _ _ w.heap.size _ _ _ _ rfl (alloc_keep (put5_at (res_set (res_set HZ2.out hne) hne) _ _ _ _ _)) Tryz.underlying46 rfl mark_info) rfl ?_
          rw [HO.out]
          refine ⟨⟨.slice a x.attrs.length c, ret_eq rfl, World.ownsRow.alloc ?_ _⟩, ?_, (put5_keeps (keep_set (keep_set HK2.out _) _) (Nat.le_refl _) _ _ _ _ _).alloc _⟩
          · exact own_base (own_put5 (own_kept (own_kept HOW.out fun g hg => heap_setCell_other _ _ _ _ (by show g ≠ b; have := (HOW.out.lt g hg).1; omega)) fun g hg => heap_setCell_other _ _ _ _ (by show g ≠ b; have := (HOW.out.lt g hg).1; omega)) (Nat.lt_succ_self _) _ _ _ _ _) (Nat.le_succ _)
          · exact row_alloc (put5_row ((HR2.out.set 0 _).set 3 _) (fun e => hne e.symm) _ _ _ _ _)
    · have herb : (er0 == 0) = false := beq_eq_false_iff_ne.2 her
      rw [if_pos her] at ho
      have HO := Lib.hid ho
      clear ho
      by_cases hn : n < 0
      · have hb6 := hb5 hn
        clear hbig hb5
        go_wp2_with fail
        refine bodyPost_ret (results_mark rfl _ _ w.heap.size _ _ _ _ rfl (alloc_keep (put5_at (res_set (res_set HZ2.out hne) hne) _ _ _ _ _)) Tryz.underlying46 rfl mark_info) rfl ?_
        rw [HO.out]
        refine ⟨⟨.slice none 0 0, ret_eq rfl, World.ownsRow_nil _ _ _ _⟩, ?_, (put5_keeps (keep_set (keep_set HK2.out _) _) (Nat.le_refl _) _ _ _ _ _).alloc _⟩
        exact row_alloc (put5_row ((HR2.out.set 9 _).set 0 (.string (strB []))) (fun e => hne e.symm) _ _ _ _ _)
      · clear hbig hb5
        go_wp2_with fail
        refine bodyPost_ret (results_mark rfl _ _ w.heap.size _ _ _ _ rfl (alloc_keep (put5_at (res_set (res_set HZ2.out hne) hne) _ _ _ _ _)) Tryz.underlying46 rfl mark_info) rfl ?_
        rw [HO.out]
        refine ⟨⟨.slice none 0 0, ret_eq rfl, World.ownsRow_nil _ _ _ _⟩, ?_, (put5_keeps (keep_set (keep_set HK2.out _) _) (Nat.le_refl _) _ _ _ _ _).alloc _⟩
        exact row_alloc (put5_row ((HR2.out.set 9 _).set 0 (.string (strB []))) (fun e => hne e.symm) _ _ _ _ _)
end Go.Proofs.YtbabcohidpcjjaaGreat
