/-
  What stands in a script is no markup: plain Lean, no Go.
-/
import Derived.Test.YtbabcohidpcjjaaMkPlt
import Derived.Test.YtbabcohidpcjjaaMkRS
namespace Go.Proofs.Ytbabcohidpcjjaa
open Mem

/-- a text without </ -/
def rawG : UInt8 → Str → Str
  | _, [] => []
  | p, c :: r => (if c = 47 ∧ p = 60 then 46 else c) :: rawG c r
theorem rawG_len : ∀ (p : UInt8) (s : Str), (rawG p s).length = s.length
  | _, [] => rfl
  | p, c :: r => by rw [rawG, List.length_cons, List.length_cons, rawG_len c r]
theorem rawG_ok : ∀ (p : UInt8) (s : Str), OkB s → OkB (rawG p s)
  | _, [], _ => fun _ h => by cases h
  | p, c :: r, h => by
    intro x hx
    rw [rawG] at hx
    rcases List.mem_cons.1 hx with hx | hx
    · rw [hx]
      split
      · exact ⟨by decide, by decide⟩
      · exact h c List.mem_cons_self
    · exact rawG_ok c r (fun y hy => h y (List.mem_cons_of_mem _ hy)) x hx
theorem foldsF_no {d : UInt8} (hd : d ≠ 47) (x nm : Str) : foldsF (60 :: d :: x) ([60, 47] ++ nm) = (false, false) := by
  unfold foldsF
  rw [if_pos]
  intro h
  obtain ⟨n, hn⟩ : ∃ n, min (60 :: d :: x : Str).length ([60, 47] ++ nm : Str).length = n + 2 := ⟨min x.length nm.length, by simp only [List.length_cons, List.length_append, List.length_nil]; omega⟩
  rw [hn] at h
  simp only [List.take_succ_cons, List.cons_append, lowS, List.map_cons, List.cons.injEq] at h
  exact hd (low_47 d h.2.1)
theorem endsF_no {m : MkM} {d : UInt8} (hd : d ≠ 47) (x : Str) : endsF m (60 :: d :: x) = 0 := by
  unfold endsF
  rw [foldsF_no hd]
  simp
/-- the end tag of a mode, and what follows -/
theorem endsF_yes {m : MkM} {nm : Str} (hm : m.name = nm) (hn : Name nm) (r : Str) : endsF m (60 :: 47 :: (nm ++ 62 :: r)) = 3 := by
  have hw : ([60, 47] ++ nm : Str).length = nm.length + 2 := by simp
  have hs : (60 :: 47 :: (nm ++ 62 :: r) : Str).length = nm.length + 2 + (r.length + 1) := by simp; omega
  have ht : (60 :: 47 :: (nm ++ 62 :: r) : Str).take (nm.length + 2) = [60, 47] ++ nm := by
    rw [List.take_succ_cons, List.take_succ_cons, List.take_append_of_le_length (Nat.le_refl _), List.take_length]
    rfl
  have hl : lowS ([60, 47] ++ nm) = [60, 47] ++ nm := by
    have := lowS_name hn
    unfold lowS at this ⊢
    rw [List.map_append, this]
    rfl
  have hf : foldsF (60 :: 47 :: (nm ++ 62 :: r)) ([60, 47] ++ nm) = (true, false) := by
    unfold foldsF
    rw [show min (60 :: 47 :: (nm ++ 62 :: r) : Str).length ([60, 47] ++ nm : Str).length = nm.length + 2 from by omega, ht, hl, hw, ← hw, List.take_length, if_neg (fun h => h rfl)]
    simp
  have hg : (60 :: 47 :: (nm ++ 62 :: r) : Str).getD (nm.length + 2) 0 = 62 := by
    rw [List.getD_eq_getElem?_getD, List.getElem?_cons_succ, List.getElem?_cons_succ, List.getElem?_append_right (Nat.le_refl _), Nat.sub_self]
    rfl
  unfold endsF
  rw [hm, hf, hg, if_neg, if_pos ⟨rfl, by decide⟩]
  rintro (h | ⟨-, h⟩)
  · cases h
  · rw [hs] at h; omega
theorem textF_raw {m : MkM} {nm : Str} (hm : m.mode = 2) (hnm : m.name = nm) (hn : Name nm) (r : Str) : ∀ (t : Str) (p : UInt8), textF m (rawG p t ++ 60 :: 47 :: (nm ++ 62 :: r)) = (rawG p t, 60 :: 47 :: (nm ++ 62 :: r), 3)
  | [], p => by
    rw [rawG, List.nil_append]
    refine textF_ltk ?_ (by decide)
    unfold lookF
    rw [if_pos (by rw [hm]; decide)]
    exact endsF_yes hnm hn r
  | c :: t, p => by
    have ih := textF_raw hm hnm hn r t c
    rw [rawG, List.cons_append, textF.eq_2]
    obtain ⟨c', hc'⟩ : ∃ c', c' = if c = 47 ∧ p = 60 then 46 else c := ⟨_, rfl⟩
    rw [← hc', ih]
    by_cases h60 : c' = 60
    · have hc60 : c = 60 := by
        rw [hc'] at h60
        split at h60
        · cases h60
        · exact h60
      have hlook : lookF m (c' :: (rawG c t ++ 60 :: 47 :: (nm ++ 62 :: r))) = 0 := by
        unfold lookF
        rw [if_pos (by rw [hm]; decide), h60, hc60]
        cases t with
        | nil => exact endsF_no (by decide) _
        | cons d t =>
          rw [rawG, List.cons_append]
          refine endsF_no ?_ _
          by_cases hd : d = 47
          · rw [if_pos ⟨hd, rfl⟩]; decide
          · rw [if_neg (fun h => hd h.1)]; exact hd
      rw [if_pos h60, if_pos hlook, h60]
    · rw [if_neg h60, if_neg (by rw [hm]; simp)]
theorem rawW_name : ∀ nm ∈ rawW, Name nm ∧ nm.length ≤ 10 ∧ (∃ c r, nm = c :: r ∧ letterB c = true) ∧ refW.contains nm = false ∧ rawW.contains nm = true := by
  have h : ∀ nm ∈ rawW, (nm ≠ [] ∧ ∀ c ∈ nm, nmB c = true) ∧ nm.length ≤ 10 ∧ letterB (nm.headD 0) = true ∧ refW.contains nm = false ∧ rawW.contains nm = true := by decide +kernel
  intro nm hnm
  obtain ⟨h1, h2, h3, h4, h5⟩ := h nm hnm
  refine ⟨⟨h1.1, h1.2⟩, h2, ?_, h4, h5⟩
  match nm, h1 with
  | [], h1 => exact absurd rfl h1.1
  | c :: r, _ => exact ⟨c, r, rfl, h3⟩
theorem rawW_set : ∀ nm ∈ rawW, ∀ m : MkM, setF m 2 nm = { m with mode := 2, name := nm } := by
  have h : ∀ nm ∈ rawW, nm ≠ [] ∧ decide (97 ≤ nm.headD 0) = true ∧ nm.all (fun c => (decide (97 ≤ c) && decide (c ≤ 122)) || (decide (48 ≤ c) && decide (c ≤ 57))) = true ∧ ((2 : Int) = 1 ∨ (2 : Int) = 2) := by decide +kernel
  intro nm hnm m
  unfold setF
  rw [if_pos (h nm hnm)]
def endM (nm : Str) : MkM := { zeroM with buf := [60, 33, 45, 45, 45, 45, 62], closed := true, name := nm }
def drainsTo (m : MkM) (l : List MarkD) : Bool := decide ((drainF m).1 = l) && (drainF m).2.err == 0
theorem endM_drain : ∀ nm ∈ rawW, (drainF (endM nm)).1 = [bareM 4] ∧ (drainF (endM nm)).2.err = 0 := by
  have h : ∀ nm ∈ rawW, drainsTo (endM nm) [bareM 4] = true := by decide +kernel
  intro nm hnm
  have := h nm hnm
  unfold drainsTo at this
  simpa using this
def startM (nm : Str) : MarkD := ⟨2, nm, [], false, []⟩
def stopM (nm : Str) : MarkD := ⟨3, nm, [], false, []⟩
theorem atts_nil : Atts [] := ⟨fun _ h => (by cases h), List.Pairwise.nil⟩
theorem tag_nil (e : Bool) (nm : Str) : tagT e nm [] false = ltT e ++ (nm ++ [62]) := rfl
theorem tag_parse (e : Bool) {nm : Str} (hn : Name nm) (hl : nm.length ≤ 10) (v : Str) : parseF ((tagT e nm [] false ++ v).take 2049) e = (if e then stopM nm else startM nm, ((tagT e nm [] false).length : Int), 0) := by
  have hp := parseF_tag (e := e) (b := false) hn atts_nil
  have hlen : (tagT e nm [] false).length ≤ 20 := by
    rw [tag_nil]
    cases e <;> (simp only [ltT, List.length_append, List.length_cons, List.length_nil]; simp; omega)
  rw [List.take_append, List.take_of_length_le (by omega)]
  have h0 : 0 ≤ (parseF (tagT e nm [] false) e).2.1 := by rw [hp]; cases e <;> exact Int.natCast_nonneg _
  rw [(parseF_more h0 _).1, hp]
  cases e <;> rfl
theorem marks_raw {nm : Str} (hnm : nm ∈ rawW) (t : Str) (ht : OkB t) :
    marksF (tagT false nm [] false ++ (rawG 0 t ++ (tagT true nm [] false ++ [60, 33, 45, 45, 45, 45, 62]))) = (startM nm :: (txF (rawG 0 t) ++ [stopM nm, bareM 4]), 0) := by
  obtain ⟨hn, hl, ⟨c0, r0, hc0, hlet⟩, hr1, hr2⟩ := rawW_name nm hnm
  obtain ⟨own, hown⟩ : ∃ own, own = rawG 0 t := ⟨_, rfl⟩
  obtain ⟨T, hT⟩ : ∃ T, T = tagT true nm [] false ++ [60, 33, 45, 45, 45, 45, 62] := ⟨_, rfl⟩
  have hT2 : T = 60 :: 47 :: (nm ++ 62 :: [60, 33, 45, 45, 45, 45, 62]) := by rw [hT, tag_nil]; simp [ltT]
  rw [← hown, ← hT]
  have hlenF : (tagT false nm [] false).length = nm.length + 2 := by rw [tag_nil]; simp [ltT]
  have hlenT : (tagT true nm [] false).length = nm.length + 3 := by rw [tag_nil]; simp [ltT]
  have hTl : T.length ≤ 2048 := by rw [hT, List.length_append, hlenT]; show _ + 7 ≤ 2048; omega
  have hno : ∀ x ∈ nm, x ≠ 13 ∧ x ≠ 0 := fun x hx => by have := nmB_signs x (hn.all x hx); exact ⟨this.2.2.2.2.1, this.2.2.2.2.2.1⟩
  have hlit : ∀ (e : Bool) (l : Str), (∀ x ∈ l, x ≠ 13 ∧ x ≠ 0) → ∀ x ∈ ltT e ++ (nm ++ l), x ≠ 13 ∧ x ≠ 0 := fun e l h x hx => by
    rcases List.mem_append.1 hx with hx | hx
    · exact (by cases e <;> decide : ∀ x ∈ ltT e, x ≠ 13 ∧ x ≠ 0) x hx
    · exact (List.mem_append.1 hx).elim (hno x) (h x)
  have hok : ∀ x ∈ tagT false nm [] false ++ (own ++ T), x ≠ 13 ∧ x ≠ 0 := fun x hx => by
    rcases List.mem_append.1 hx with hx | hx
    · exact hlit false [62] (by decide) x hx
    · rcases List.mem_append.1 hx with hx | hx
      · have := rawG_ok 0 t ht x (hown ▸ hx)
        exact ⟨this.2, this.1⟩
      · rw [hT] at hx
        rcases List.mem_append.1 hx with hx | hx
        · exact hlit true [62] (by decide) x hx
        · exact (by decide : ∀ x ∈ ([60, 33, 45, 45, 45, 45, 62] : Str), x ≠ 13 ∧ x ≠ 0) x hx
  -- the start tag
  obtain ⟨M0, hM0⟩ : ∃ M0, M0 = shutM (tagT false nm [] false ++ (own ++ T)) := ⟨_, rfl⟩
  have hb0 : M0.buf = tagT false nm [] false ++ (own ++ T) := by rw [hM0]; rfl
  have k0 : textF M0 M0.buf = ([], M0.buf, if false = true then 3 else 2) := by
    rw [hb0, tag_nil, hc0, List.append_assoc]
    exact textF_tag (m := M0) (by rw [hM0]; rfl) false hlet _
  have p0 := tag_parse false hn hl (own ++ T)
  rw [← hb0] at p0
  have d0 := (drain_tag (m := M0) (by rw [hM0]; rfl) (by rw [hM0]; rfl) (by rw [hM0]; rfl) k0).2.2.2 (by rw [p0]; exact Int.natCast_nonneg _) (by rw [p0, hlenF]; show ((nm.length + 2 : Nat) : Int) ≤ 2048; omega) (by rw [p0])
  rw [p0] at d0
  simp only [Bool.false_eq_true, if_false, Int.toNat_natCast] at d0
  have hdrop : M0.buf.drop (tagT false nm [] false).length = own ++ T := by rw [hb0, List.drop_append, List.drop_length, Nat.sub_self]; rfl
  have hsw : ∀ m : MkM, switchF m (startM nm) = { m with mode := 2, name := nm } := fun m => by
    unfold switchF
    rw [if_neg (by show ¬ (2 : Int) ≠ 2; decide)]
    show (if refW.contains nm = true then _ else if rawW.contains nm = true then setF m 2 nm else _) = _
    rw [hr1, if_neg (by decide), hr2, if_pos rfl, rawW_set nm hnm]
  rw [hdrop, hsw] at d0
  -- the text
  obtain ⟨M1, hM1⟩ : ∃ M1 : MkM, M1 = { M0 with buf := own ++ T, mode := 2, name := nm } := ⟨_, rfl⟩
  have d0' : drainF M0 = (startM nm :: (drainF M1).1, (drainF M1).2) := by rw [hM1]; exact d0
  have k1 : textF M1 M1.buf = (own, T, 3) := by
    have : M1.buf = own ++ T := by rw [hM1]
    rw [this, hT2, hown]
    exact textF_raw (m := M1) (by rw [hM1]) (by rw [hM1]) hn _ t 0
  have k2 : textF { M1 with buf := T } T = ([], T, 3) := by
    have := textF_raw (m := { M1 with buf := T }) (nm := nm) (by rw [hM1]) (by rw [hM1]) hn [60, 33, 45, 45, 45, 45, 62] [] 0
    rw [← hT2] at this
    exact this
  have d1 := drain_text (m := M1) (by rw [hM1, hM0]; rfl) (by rw [hM1, hM0]; rfl) k1 k2
  -- the end tag
  obtain ⟨M2, hM2⟩ : ∃ M2 : MkM, M2 = { M1 with buf := T } := ⟨_, rfl⟩
  rw [← hM2] at d1 k2
  have hb2 : M2.buf = T := by rw [hM2]
  have p2 := tag_parse true hn hl [60, 33, 45, 45, 45, 45, 62]
  rw [← hT, ← hb2] at p2
  rw [← hb2] at k2
  have d2 := (drain_tag (m := M2) (e := true) (by rw [hM2, hM1, hM0]; rfl) (by rw [hM2, hM1, hM0]; rfl) (by rw [hM2, hM1, hM0]; rfl) k2).2.2.2 (by rw [p2]; exact Int.natCast_nonneg _) (by rw [p2, hlenT]; show ((nm.length + 3 : Nat) : Int) ≤ 2048; omega) (by rw [p2])
  rw [p2] at d2
  simp only [if_true, Int.toNat_natCast] at d2
  have hdrop2 : M2.buf.drop (tagT true nm [] false).length = [60, 33, 45, 45, 45, 45, 62] := by rw [hb2, hT, List.drop_append, List.drop_length, Nat.sub_self]; rfl
  have hsw2 : ∀ m : MkM, switchF m (stopM nm) = m := fun m => by
    unfold switchF
    rw [if_pos (by show (3 : Int) ≠ 2; decide)]
  rw [hdrop2, hsw2] at d2
  have hend : ({ M2 with buf := [60, 33, 45, 45, 45, 45, 62], mode := 0 } : MkM) = endM nm := by rw [hM2, hM1, hM0]; rfl
  rw [hend] at d2
  obtain ⟨e1, e2⟩ := endM_drain nm hnm
  have hall : (drainF M0).1 = startM nm :: (txF own ++ [stopM nm, bareM 4]) ∧ (drainF M0).2.err = 0 := by
    rw [d0', d1, d2]
    simp only
    rw [e1, e2]
    exact ⟨rfl, rfl⟩
  rw [marks_shut hok, ← hM0, hall.2, if_neg (fun h => h rfl), hall.1]
  have hj : joinF [] (startM nm :: (txF own ++ [stopM nm, bareM 4])) = startM nm :: (txF own ++ [stopM nm, bareM 4]) := by
    rw [joinF, if_pos (by show (2 : Int) ≠ 1; decide), List.nil_append]
    unfold txF
    by_cases h : own = []
    · rw [if_pos h, List.nil_append, joinF, if_pos (by show (3 : Int) ≠ 1; decide), joinF, if_pos (by show (4 : Int) ≠ 1; decide)]
      rfl
    · rw [if_neg h, List.cons_append, List.nil_append, joinF, if_neg (by show ¬ (1 : Int) ≠ 1; decide), if_neg (show ¬ (textM own).text = [] from h)]
      show joinF ([startM nm] ++ [textM own]) [stopM nm, bareM 4] = _
      rw [joinF, if_pos (by show (3 : Int) ≠ 1; decide), joinF, if_pos (by show (4 : Int) ≠ 1; decide)]
      rfl
  rw [hj]
end Go.Proofs.Ytbabcohidpcjjaa
