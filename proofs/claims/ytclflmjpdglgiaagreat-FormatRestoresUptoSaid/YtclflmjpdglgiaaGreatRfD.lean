import Derived.Test.YtclflmjpdglgiaaGreatRfA
import Derived.Test.YtclflmjpdglgiaaGreatOpenWZ
import Derived.Test.YtclflmjpdglgiaaGreatRfC
/-
  Moving all kids at once is putting them one after the other: plain Lean, no Go. (Layer 14.)
-/
namespace Go.Proofs.YtclflmjpdglgiaaGreat
open Go.RowKit Mem

def mvN (T : TreeD) (a b : Int) (P R : List Int) (i : Nat) (d : ND) : ND :=
  { d with parent := if (i : Int) ∈ P then b else d.parent, kids := if (i : Int) = b then kidsF T b ++ P else if (i : Int) = a then R else d.kids }
/-- the kids P have gone from a to b, R have not -/
def MV (T : TreeD) (a b : Int) (P R : List Int) : TreeD := ⟨T.nodes.mapIdx (mvN T a b P R), T.most, T.far⟩
theorem MV_len (T : TreeD) (a b : Int) (P R : List Int) : (MV T a b P R).nodes.length = T.nodes.length := by simp [MV]
theorem MV_get (T : TreeD) (a b : Int) (P R : List Int) (i : Nat) : (MV T a b P R).nodes[i]? = T.nodes[i]?.map (mvN T a b P R i) := by simp [MV]
theorem MV_kids {T : TreeD} {a b : Int} {P R : List Int} (i : Nat) (hi : i < T.nodes.length) : kidsF (MV T a b P R) i = if (i : Int) = b then kidsF T b ++ P else if (i : Int) = a then R else kidsF T i := by
  simp only [kidsF, Int.toNat_natCast, MV_get, List.getElem?_eq_getElem hi]
  rfl
theorem MV_parent {T : TreeD} {a b : Int} {P R : List Int} (i : Nat) (hi : i < T.nodes.length) : parentF (MV T a b P R) i = if (i : Int) ∈ P then b else parentF T i := by
  simp only [parentF, Int.toNat_natCast, MV_get, List.getElem?_eq_getElem hi]
  rfl
theorem MV_elem (T : TreeD) (a b : Int) (P R : List Int) (i : Int) : elemF (MV T a b P R) i = elemF T i := by
  have h : isF (MV T a b P R) i = isF T i := by simp [isF, MV_len]
  simp only [elemF, h, MV_get]
  cases T.nodes[i.toNat]? <;> rfl
theorem MV_holds (T : TreeD) (a b : Int) (P R : List Int) (i : Int) : holdsF (MV T a b P R) i = holdsF T i := by simp only [holdsF, MV_elem]
theorem tree_ext {T U : TreeD} (hm : T.most = U.most) (hf : T.far = U.far) (h : ∀ i : Nat, T.nodes[i]? = U.nodes[i]?) : T = U := by
  obtain ⟨n1, m1, f1⟩ := T
  obtain ⟨n2, m2, f2⟩ := U
  simp only [TreeD.mk.injEq]
  exact ⟨List.ext_getElem? h, hm, hf⟩
theorem MV_zero (T : TreeD) (a b : Nat) : MV T a b [] (kidsF T a) = T := by
  refine tree_ext rfl rfl fun i => ?_
  rw [MV_get]
  cases h : T.nodes[i]? with
  | none => rfl
  | some d =>
    have hk : kidsF T i = d.kids := by simp [kidsF, h]
    simp only [Option.map_some, mvN, List.not_mem_nil, if_false, List.append_nil, Option.some.injEq]
    cases d
    simp only [ND.mk.injEq, true_and]
    split
    · rename_i e; rw [← e, hk]
    · split
      · rename_i e; rw [← e, hk]
      · rfl

/-- the way up to b is as it was -/
theorem MV_reach {T : TreeD} (hw : WF T) {a b : Nat} {P R : List Int} (hb : b < T.nodes.length) (hP : ∀ x ∈ P, parentF T x = a ∧ 1 ≤ x) (hab : belowF T b a = false) {k : Int} (h : Reach (MV T a b P R) k b) : Reach T k b := by
  have hna : ¬ Reach T a b := by
    intro h
    rw [belowF_true h] at hab
    cases hab
  have key : ∀ m : Int, Reach (MV T a b P R) k m → m < T.nodes.length → Reach T m b → Reach T k b := by
    intro m hm
    induction hm with
    | here => exact fun _ h => h
    | @up m h0 _ ih =>
      intro hlt hr
      obtain ⟨i, rfl⟩ := Int.eq_ofNat_of_zero_le (by omega : 0 ≤ m)
      have hi : i < T.nodes.length := by omega
      have hnP : ¬ (i : Int) ∈ P := by
        intro hp
        have h2 := reach_more hr h0
        rw [(hP _ hp).1] at h2
        exact hna h2
      rw [MV_parent i hi, if_neg hnP] at ih
      exact ih (hw.par i hi).2 (reach_more hr h0)
  exact key b h (by omega) .here

theorem MV_put {T : TreeD} (hw : WF T) {a b k : Nat} {P R : List Int} (ha : a < T.nodes.length) (hb : b < T.nodes.length) (hL : kidsF T a = P ++ (k : Int) :: R) (hhb : holdsF T b = true) (hab : belowF T b a = false) :
    putE (MV T a b P (k :: R)) b 0 k = (MV T a b (P ++ [(k : Int)]) R, 0) := by
  have hne : a ≠ b := by
    rintro rfl
    rw [belowF_true .here] at hab
    cases hab
  have hnd := hw.nodup a ha
  have hkids := hw.kid a ha
  rw [hL] at hnd hkids
  obtain ⟨hk1, hk2, hk3⟩ := hkids k (by simp)
  have hkP : ¬ (k : Int) ∈ P := fun h => by
    have := (List.nodup_append.1 hnd).2.2 _ h (k : Int) (by simp)
    exact this rfl
  have hkR : ¬ (k : Int) ∈ R := (List.nodup_cons.1 (List.nodup_append.1 hnd).2.1).1
  have hkl : k < T.nodes.length := by omega
  have hkb : k ≠ b := by
    rintro rfl
    have h := belowF_true (T := T) (n := (k : Int)) (top := (a : Int)) (.up (by omega) (by rw [hk3]; exact .here))
    rw [hab] at h
    cases h
  have hPall : ∀ x ∈ P, parentF T x = a ∧ 1 ≤ x := fun x hx => by
    obtain ⟨h1, _, h3⟩ := hkids x (List.mem_append_left _ hx)
    exact ⟨h3, h1⟩
  have hok : putOk (MV T a b P (k :: R)) b 0 k = true := by
    simp only [putOk, Bool.and_eq_true, MV_holds, hhb, Bool.not_eq_true', decide_eq_true_eq, true_and, bne_iff_ne]
    refine ⟨⟨⟨?_, by omega⟩, ?_⟩, ?_⟩
    · simp only [isF, MV_len, Bool.and_eq_true, decide_eq_true_eq]; omega
    · rw [placeF, if_pos rfl]; omega
    · cases hbf : belowF (MV T a b P (k :: R)) b k
      · rfl
      · exfalso
        have hr : Reach (MV T a b P (k :: R)) (k : Int) (b : Int) := by simpa [belowF] using hbf
        have h2 := MV_reach hw hb hPall hab hr
        have h3 := reach_more h2 (by omega)
        rw [hk3] at h3
        rw [belowF_true h3] at hab
        cases hab
  rw [putE, hok, if_pos rfl]
  have hpk : parentF (MV T a b P (k :: R)) k = a := by rw [MV_parent k hkl, if_neg hkP, hk3]
  have hka : kidsF (MV T a b P (k :: R)) a = (k : Int) :: R := by rw [MV_kids a ha, if_neg (by omega), if_pos rfl]
  have hkb' : kidsF (MV T a b P (k :: R)) b = kidsF T b ++ P := by rw [MV_kids b hb, if_pos rfl]
  have hfil : ((k : Int) :: R).filter (· != (k : Int)) = R := by
    rw [List.filter_cons_of_neg (by simp)]
    exact List.filter_eq_self.2 fun x hx => by
      rw [bne_iff_ne]
      rintro rfl
      exact hkR hx
  have hT1 : kidsOff (MV T a b P (k :: R)) k = modN (MV T a b P (k :: R)) a (setKids R) := by
    rw [kidsOff, hpk, if_pos (by omega), hka, hfil]
  have hkb2 : kidsF (takeF (MV T a b P (k :: R)) k) b = kidsF T b ++ P := by
    rw [takeF, hT1, kidsF_setParent _ k _ b (by rw [modN_len, MV_len]; exact hb), kidsF_mod _ a _ b (by rw [MV_len]; exact hb), if_neg hne, hkb']
  have hins : putF (MV T a b P (k :: R)) b 0 k = modN (modN (modN (modN (MV T a b P (k :: R)) a (setKids R)) k (setParent (-1))) b (setKids (kidsF T b ++ P ++ [(k : Int)]))) k (setParent b) := by
    rw [putF, insertF, placeF, if_pos rfl, hkb2, Int.toNat_natCast, List.take_length, List.drop_length, takeF, hT1]
  rw [hins]
  refine Prod.ext ?_ rfl
  refine tree_ext rfl rfl fun i => ?_
  simp only [modN_get, MV_get]
  cases hd : T.nodes[i]? with
  | none => simp
  | some d =>
    have e1 : ((i : Int) = (b : Int)) ↔ b = i := by omega
    have e2 : ((i : Int) = (a : Int)) ↔ a = i := by omega
    have e3 : ((i : Int) = (k : Int)) ↔ k = i := by omega
    by_cases hik : k = i
    · subst hik
      rw [if_pos rfl, if_neg (Ne.symm hkb), if_pos rfl]
      by_cases hia : a = k
      · subst hia
        simp only [Option.map_some, if_pos, mvN, setKids, setParent, List.mem_append, List.mem_singleton, or_true, Option.some.injEq, ND.mk.injEq, true_and]
        rw [if_neg (by omega)]
      · simp [mvN, setParent, hia, e1, e2, Ne.symm hkb]
    · rw [if_neg hik]
      by_cases hib : b = i
      · subst hib
        simp [mvN, setKids, hik, hne, e3]
      · rw [if_neg hib]
        by_cases hia : a = i
        · subst hia
          simp [mvN, setKids, hik, e1, e3, hib]
        · simp [mvN, hik, hib, hia, e1, e2, e3]

theorem MV_move {T : TreeD} (hw : WF T) {a b : Nat} (ha : a < T.nodes.length) (hb : b < T.nodes.length) (hhb : holdsF T b = true) (hab : belowF T b a = false) :
    ∀ (R P : List Int), kidsF T a = P ++ R → moveF (MV T a b P R) b R = MV T a b (P ++ R) []
  | [], P, _ => by simp [moveF]
  | x :: R, P, hL => by
    have h1 := hw.kid a ha x (by rw [hL]; simp)
    obtain ⟨k, rfl⟩ := Int.eq_ofNat_of_zero_le (by omega : 0 ≤ x)
    have h2 := MV_put hw ha hb hL hhb hab
    have h3 := MV_move hw ha hb hhb hab R (P ++ [(k : Int)]) (by rw [hL]; simp)
    have h4 : moveF (MV T a b P ((k : Int) :: R)) b ((k : Int) :: R) = moveF (putE (MV T a b P ((k : Int) :: R)) b 0 k).1 b R := rfl
    rw [h4, h2, h3]
    simp
theorem move_once {T : TreeD} (hw : WF T) {a b : Nat} (ha : a < T.nodes.length) (hb : b < T.nodes.length) (hhb : holdsF T b = true) (hab : belowF T b a = false) : moveF T b (kidsF T a) = MV T a b (kidsF T a) [] := by
  have h := MV_move hw ha hb hhb hab (kidsF T a) [] rfl
  rw [MV_zero] at h
  exact h
end Go.Proofs.YtclflmjpdglgiaaGreat

/-
  Contract: (*colanderref14.Tree).Move: all kids are moved at once, or it is refused.
-/
namespace Go.Proofs.YtclflmjpdglgiaaGreat
open Go.RowKit Mem

def paN (b : Int) (P : List Int) (i : Nat) (d : ND) : ND := { d with parent := if (i : Int) ∈ P then b else d.parent }
/-- the nodes P have b above them -/
def PV (T : TreeD) (b : Int) (P : List Int) : TreeD := ⟨T.nodes.mapIdx (paN b P), T.most, T.far⟩
theorem PV_len (T : TreeD) (b : Int) (P : List Int) : (PV T b P).nodes.length = T.nodes.length := by simp [PV]
theorem PV_get (T : TreeD) (b : Int) (P : List Int) (i : Nat) : (PV T b P).nodes[i]? = T.nodes[i]?.map (paN b P i) := by simp [PV]
theorem PV_nil (T : TreeD) (b : Int) : PV T b [] = T := by
  refine tree_ext rfl rfl fun i => ?_
  rw [PV_get]
  cases T.nodes[i]? <;> simp [paN]
theorem PV_next (T : TreeD) (b : Int) (P : List Int) (k : Nat) : modN (PV T b P) k (setParent b) = PV T b (P ++ [(k : Int)]) := by
  refine tree_ext rfl rfl fun i => ?_
  rw [modN_get, PV_get, PV_get]
  cases T.nodes[i]? with
  | none => simp
  | some d =>
    by_cases h : k = i
    · subst h
      simp [paN, setParent]
    · have h' : ¬ ((i : Int) = (k : Int)) := by omega
      simp [h, paN, h']
theorem PV_done (T : TreeD) {a b : Nat} (hne : a ≠ b) (L : List Int) : modN (modN (PV T b L) a (setKids [])) b (setKids (kidsF T b ++ L)) = MV T a b L [] := by
  refine tree_ext rfl rfl fun i => ?_
  rw [modN_get, modN_get, PV_get, MV_get]
  cases T.nodes[i]? with
  | none => simp
  | some d =>
    have e1 : ((i : Int) = (b : Int)) ↔ b = i := by omega
    have e2 : ((i : Int) = (a : Int)) ↔ a = i := by omega
    by_cases hb : b = i
    · subst hb
      simp [paN, mvN, setKids, hne]
    · by_cases ha : a = i
      · subst ha
        simp [hb, paN, mvN, setKids, e1]
      · simp [hb, ha, paN, mvN, e1, e2]
theorem non_at {W u : World} {a : Option Addr} {xs : List Value} (hk : Keeps Non W u) (h : At W a xs) : At u a xs := fun j v hj => by
  obtain ⟨b, o, ha, hc⟩ := h j v hj
  exact ⟨b, o, ha, non_cell hk hc⟩
theorem PV_kids (T : TreeD) (b : Int) (P : List Int) (i : Nat) : kidsF (PV T b P) i = kidsF T i := by
  simp only [kidsF, Int.toNat_natCast, PV_get]
  cases T.nodes[i]? <;> rfl


set_option maxHeartbeats 2000000 in
theorem rmove_no (T : TreeD) (rb gn gk : Nat) (w : World) (a b : Int) (hw : WF T) (h : RefO w rb gn gk T) (hno : (holdsF T a && holdsF T b && !belowF T b a) = false) :
    Calls Tryz.prog 107 #[.pointer (some ⟨rb, 0, none⟩), .int .i64 a, .int .i64 b] w fun e w' => e = .returned (.int .i64 47) ∧ w = w' := by
  have H1 := Lib.hid (relem_any T rb gn gk w a h)
  have H2 := Lib.hid (relem_any T rb gn gk w b h)
  have hpos := hw.pos
  by_cases hab : a = b
  · subst hab
    clear H2
    cases h0 : (a == 0) <;> cases h1 : elemF T a
    · rw [h1] at H1
      clear h hno
      go_enter Tryz.func107, Tryz.ntmps107
      go_wp2_with (go_at_call 97; go_must (refine H1.out.mono ?_; rintro e w1 ⟨rfl, rfl⟩))
      go_ret
      exact ⟨rfl, rfl⟩
    all_goals
      have hh : holdsF T a = true := by rw [holdsF, h0, h1]; rfl
      have ha := holdsF_lt hpos hh
      obtain ⟨a, rfl⟩ := Int.eq_ofNat_of_zero_le ha.1
      have H3 := Lib.hid (runder_all T rb gn gk w a a (by omega) hw h)
      rw [belowF_true .here] at H3
      rw [h1] at H1
      clear h hno
      go_enter Tryz.func107, Tryz.ntmps107
      go_wp2_with (first | (go_at_call 97; go_must (refine H1.out.mono ?_; rintro e w1 ⟨rfl, rfl⟩)) | (go_at_call 118; go_must (refine H3.out.mono ?_; rintro e w1 ⟨rfl, rfl⟩)))
      go_ret
      exact ⟨rfl, rfl⟩
  cases h0 : (a == 0) <;> cases h1 : elemF T a
  · rw [h1] at H1
    cases g0 : (b == 0) <;> cases g1 : elemF T b
    all_goals
      rw [g1] at H2
      clear h hno
      go_enter Tryz.func107, Tryz.ntmps107
      go_wp2_with (first | (go_at_call_of 97 (Value.int .i64 b); go_must (refine H2.out.mono ?_; rintro e w1 ⟨rfl, rfl⟩)) | (go_at_call 97; go_must (refine H1.out.mono ?_; rintro e w1 ⟨rfl, rfl⟩)) | (go_at_call 118; go_must (refine H3.out.mono ?_; rintro e w1 ⟨rfl, rfl⟩)))
      go_ret
      exact ⟨rfl, rfl⟩
  all_goals
    have hh : holdsF T a = true := by rw [holdsF, h0, h1]; rfl
    rw [h1] at H1
    cases g0 : (b == 0) <;> cases g1 : elemF T b
    · rw [g1] at H2
      clear h hno
      go_enter Tryz.func107, Tryz.ntmps107
      go_wp2_with (first | (go_at_call_of 97 (Value.int .i64 b); go_must (refine H2.out.mono ?_; rintro e w1 ⟨rfl, rfl⟩)) | (go_at_call 97; go_must (refine H1.out.mono ?_; rintro e w1 ⟨rfl, rfl⟩)) | (go_at_call 118; go_must (refine H3.out.mono ?_; rintro e w1 ⟨rfl, rfl⟩)))
      go_ret
      exact ⟨rfl, rfl⟩
    all_goals
      have gg : holdsF T b = true := by rw [holdsF, g0, g1]; rfl
      have hb := holdsF_lt hpos gg
      obtain ⟨b, rfl⟩ := Int.eq_ofNat_of_zero_le hb.1
      have H3 := Lib.hid (runder_all T rb gn gk w b a (by omega) hw h)
      rw [g1] at H2
      rw [hh, gg] at hno
      have h3 : belowF T b a = true := by simpa using hno
      rw [h3] at H3
      clear h hno
      go_enter Tryz.func107, Tryz.ntmps107
      go_wp2_with (first | (go_at_call_of 97 (Value.int .i64 b); go_must (refine H2.out.mono ?_; rintro e w1 ⟨rfl, rfl⟩)) | (go_at_call 97; go_must (refine H1.out.mono ?_; rintro e w1 ⟨rfl, rfl⟩)) | (go_at_call 118; go_must (refine H3.out.mono ?_; rintro e w1 ⟨rfl, rfl⟩)))
      go_ret
      exact ⟨rfl, rfl⟩

set_option maxRecDepth 100000 in
set_option maxHeartbeats 8000000 in
theorem rmove_yes (T : TreeD) (rb gn gk : Nat) (w : World) (a b : Nat) (hw : WF T) (hlen : T.nodes.length ≤ 1048576) (h : RefO w rb gn gk T) (hha : holdsF T a = true) (hhb : holdsF T b = true) (hab : belowF T b a = false) :
    Calls Tryz.prog 107 #[.pointer (some ⟨rb, 0, none⟩), .int .i64 a, .int .i64 b] w fun e w' => e = .returned (.int .i64 0) ∧ RefO w' rb gn gk (moveF T b (kidsF T a)) ∧ Keeps (Three rb gn gk) w w' := by
  have H1 := Lib.hid (relem_any T rb gn gk w a h)
  have H2 := Lib.hid (relem_any T rb gn gk w b h)
  have ha := holdsF_lt hw.pos hha
  have hb := holdsF_lt hw.pos hhb
  have ha' : a < T.nodes.length := by omega
  have hb' : b < T.nodes.length := by omega
  have H3 := Lib.hid (runder_all T rb gn gk w b a hb' hw h)
  rw [hab] at H3
  have hne : a ≠ b := by
    rintro rfl
    rw [belowF_true .here] at hab
    cases hab
  have HF : Hid (moveF T b (kidsF T a) = MV T a b (kidsF T a) []) := Lib.hid (move_once hw ha' hb' hhb hab)
  have hka := kids_short hw a ha'
  have hkb := kids_short hw b hb'
  have HKin := Lib.hid (hw.kid a ha')
  obtain ⟨capn, capk, p1, p2, p3, p4, c0, c1, _, l1, l2, l3⟩ := h.head
  obtain ⟨ka, kc, hk1, hk2, hk3, hk, d, f1⟩ := h.kidc ha'
  have HR := Lib.hid h
  have HAv := Lib.hid h.avoid
  have hha : ((a : Int) == 0 || elemF T a) = true := hha
  have hhb : ((b : Int) == 0 || elemF T b) = true := hhb
  have HPD := Lib.hid (PV_done T hne (kidsF T a))
  have HPN := Lib.hid (fun P => PV_next T b P)
  obtain ⟨l, hl⟩ : ∃ l, l = kidsF T a := ⟨_, rfl⟩
  rw [← hl] at d hk hk1 HF HPD HKin hka
  have HLE := Lib.hid hl
  have HA := Lib.hid (hk.at.below ((Below.refl _ _).alloc (Nat.le_refl _) (.cells #[] 3)))
  have HE : Hid ((w.alloc (.cells #[] 3)).ownsRow w.heap.size 3 1 (.slice (some ⟨w.heap.size, 0, none⟩) 0 0) 0 []) := Lib.hid (World.ownsRow_lit w #[] 0 (Nat.le_refl _) (Nat.zero_le _) rfl)
  have H4 := Lib.hid hk3.nil
  obtain ⟨i0, hi, hz0, hz1, hz2⟩ := info_parts info_int
  have b0 : 0 + l.length ≤ maxLen := by unfold maxLen; omega
  have b1 : (0 + l.length) * 8 ≤ 140737488355328 := by omega
  have HNL := Lib.hid (show (intsV l).length = l.length * 1 by rw [intsV_length, Nat.mul_one])
  have HZ := Lib.hid (show w.heap.size ≤ (w.alloc (.cells #[] 3)).heap.size by simp)
  unfold maxLen at p2 p4 hk2
  clear h hk hl hk3 hab ha hb hw
  have hz : ∀ n : Int, (n == 0) = true → elemF T n = true → False := by
    intro n h1 h2
    obtain ⟨i, _, rfl, h3, _⟩ := elemF_nat h2
    rw [beq_iff_eq] at h1
    omega
  have HZE := Lib.hid hz
  clear hz
  cases g0 : ((a : Int) == 0) <;> cases g1 : elemF T a
  · rw [g0, g1] at hha; cases hha
  rotate_right
  · exact (HZE.out _ g0 g1).elim
  all_goals
    cases k0 : ((b : Int) == 0) <;> cases k1 : elemF T b
    · rw [k0, k1] at hhb; cases hhb
    rotate_right
    · exact (HZE.out _ k0 k1).elim
    all_goals
      rw [g1] at H1
      rw [k1] at H2
      clear hha hhb
      go_enter Tryz.func107, Tryz.ntmps107
      go_wp2_with (first | (go_at_call_of 97 (Value.int .i64 b); go_must (refine H2.out.mono ?_; rintro e w1 ⟨rfl, rfl⟩)) | (go_at_call 97; go_must (refine H1.out.mono ?_; rintro e w1 ⟨rfl, rfl⟩)) | (go_at_call 118; go_must (refine H3.out.mono ?_; rintro e w1 ⟨rfl, rfl⟩)) | (at_builtin; go_must (refine wpList_append_slice _ rfl _ _ 30 rfl w.heap.size 3 i0 _ 1 8 Tryz.underlying30 hi hz0 hz1 hz2 rfl (by decide) _ 0 [] rfl HE.out ka l.length kc (intsV l) rfl HNL.out H4.out HA.out (intsV_one l) b0 b1 HZ.out ?_; intro v2 w2 hown2 hgr2; simp only [Nat.zero_add, List.nil_append] at hown2; obtain ⟨a2, c2, rfl, q1, q2, q3, q4⟩ := own_atF (F := DatR T.far rb gn gk) hown2 HAv.out; have HQ4 := Lib.hid q4; have HB2 := Lib.hid (((Below.refl _ _).alloc (Nat.le_refl _) (.cells #[] 3)).grown hgr2 HZ.out (fun b h => (HE.out.lt b h).1)); have HQ3 := Lib.hid q3.nil; clear hown2 hgr2 q4 q3)))
      go_loopw [10] (fun i wr => ∃ k : Nat, k ≤ l.length ∧ i = .int .i64 k ∧ RefO wr rb gn gk (PV T b (l.take k)) ∧ Keeps (Three rb gn gk) w2 wr) (fun i _ => l.length - (intOf i).toNat)
      case atStart => exact ⟨0, Nat.zero_le _, rfl, by rw [List.take_zero, PV_nil]; exact HR.out.below HB2.out, Keeps.refl _ _⟩
      case round =>
        obtain ⟨k, hk, rfl, hT, hK⟩ := hrel
        have hKD : Keeps (DatR T.far rb gn gk) w2 wr := hK.mono fun _ _ h => .inl h
        have HAT := Lib.hid (HQ4.out.kept hKD)
        clear hKD
        by_cases hlt : k < l.length
        · obtain ⟨b', o', rfl, e1⟩ := HAT.out.at _ _ (intsV_get l k hlt)
          obtain ⟨hx1, hx2, _⟩ := HKin.out _ (List.getElem_mem hlt)
          obtain ⟨x, hx⟩ := Int.eq_ofNat_of_zero_le (by omega : 0 ≤ l[k])
          rw [hx] at e1
          have hxl : x < T.nodes.length := by omega
          have HN := Lib.hid (show modN (PV T b (l.take k)) x (setParent b) = PV T b (l.take (k + 1)) by rw [HPN.out, List.take_add_one, List.getElem?_eq_getElem hlt, hx]; rfl)
          have hTd := hT.below ((Below.refl _ wr).drew)
          obtain ⟨capn2, capk2, y1, y2, _, _, y0, _, _, _⟩ := hTd.head
          rw [PV_len] at y1 y0
          obtain ⟨y5, yf⟩ := hTd.parc (i := x) (by rw [PV_len]; exact hxl)
          have ye : wr.drew.cell? ⟨b', o' + k, none⟩ = some (.int .i64 x) := e1
          have HP := Lib.hid (hTd.layP (i := x) (by rw [PV_len]; exact hxl) b)
          have HKK := Lib.hid (hK.drew.set (p := ⟨gn, x * 6 + 5, none⟩) (.inl (.inr (.inl rfl))) (.int .i64 (b : Int)))
          rw [HN.out] at HP
          unfold maxLen at y2
          clear hT hK hTd hx1 hx2 hx HN e1
          go_wp2_with fail
          go_still_tail 11, (by kernel_rfl)
          change wpList _ _ _ _ _ wr.drew
          generalize wr.drew = wd at *
          go_wp2_with fail
          go_roundw
          case rel => exact ⟨k + 1, by omega, by go_num, HP.out, HKK.out⟩
          case measure => simp [intOf]; omega
        · have he : l.take k = l := List.take_of_length_le (by omega)
          rw [he] at hT
          obtain ⟨capn2, capk2, _, _, y3, y4, _, y1, _, _⟩ := hT.head
          rw [PV_len] at y3 y1
          obtain ⟨ka2, kc2, _, _, _, _, yk, yf⟩ := hT.kidc (i := a) (by rw [PV_len]; exact ha')
          have hT1 := hT.layK (i := a) (v := .slice none 0 0) (l := []) (n := 0) (B := w.heap.size) (by rw [PV_len]; exact ha') rfl (World.ownsRow_nil _ _ _ _) HAv.out
          have hK1 := hK.set (p := ⟨gk, a, none⟩) (.inl (.inr (.inr rfl))) (.slice none 0 0)
          unfold maxLen at y4
          have hKb := PV_kids T b l
          go_wp2_with fail
          generalize hU : modN (PV T b l) a (setKids []) = U at *
          have hUl : U.nodes.length = T.nodes.length := by rw [← hU, modN_len, PV_len]
          have hUk : kidsF U b = kidsF T b := by rw [← hU, kidsF_mod _ a _ b (by rw [PV_len]; exact hb'), if_neg hne, hKb]
          have hUf : U.far = T.far := by rw [← hU]; rfl
          generalize wr.setCell ⟨gk, a, none⟩ (.slice none 0 0) = w3 at *
          obtain ⟨capn3, capk3, _, _, z3, z4, _, z1, _, m1, _, m3⟩ := hT1.head
          rw [hUl] at z3 z1
          obtain ⟨kb, kc3, s1, s2, s3, s4, zk, zf⟩ := hT1.kidc (i := b) (by rw [hUl]; exact hb')
          rw [hUk] at s1 s4 zk
          obtain ⟨r, hr⟩ : ∃ r, r = kidsF T b := ⟨_, rfl⟩
          rw [← hr] at s1 s4 zk hkb HPD
          have HT1 := Lib.hid hT1
          have HK1 := Lib.hid hK1
          have HA2 := Lib.hid (HQ4.out.kept (hK1.mono fun _ _ h => .inl h)).at
          have HA3 := Lib.hid s4
          have K1 : Hid (Keeps Non w3 (w3.drew.alloc (.cells #[] 3))) := Lib.hid ((Keeps.refl Non w3).drew.alloc _)
          have E1 : Hid ((w3.drew.alloc (.cells #[] 3)).ownsRow w3.heap.size 3 1 (.slice (some ⟨w3.heap.size, 0, none⟩) 0 0) 0 []) := Lib.hid (World.ownsRow_lit w3.drew #[] 0 (Nat.le_refl _) (Nat.zero_le _) rfl)
          have b2 : 0 + r.length ≤ maxLen := by unfold maxLen; omega
          have b3 : (0 + r.length) * 8 ≤ 140737488355328 := by omega
          have b4 : r.length + l.length ≤ maxLen := by unfold maxLen; omega
          have b5 : (r.length + l.length) * 8 ≤ 140737488355328 := by omega
          have L1 := Lib.hid (show (intsV r).length = r.length * 1 by rw [intsV_length, Nat.mul_one])
          have N1 := Lib.hid s3.nil
          have A1 := Lib.hid ((at_later s4 (non_any K1.out)) : At (w3.drew.alloc (.cells #[] 3)) kb (intsV r))
          have B1 : Hid (∀ j, (Value.slice (some ⟨w3.heap.size, 0, none⟩) 0 0).ownBlock = some j → w3.heap.size ≤ j) := Lib.hid (fun j e => by simp only [Value.ownBlock, Option.some.injEq] at e; omega)
          unfold maxLen at z4 s2
          clear hT hK HAT he hT1 hK1 hU hUk hUf hKb s3 s4 hr yf yk y1 y3 y4
          go_region_law (first
            | (refine step_append_slice (by rfl) (.tmp 74) (.tmp 81) _ (by rfl) w3.heap.size 3 i0 _ 1 8 Tryz.underlying30 hi hz0 hz1 hz2 rfl (by decide) _ 0 [] (by rfl) E1.out kb r.length kc3 (intsV r) (by rfl) L1.out N1.out A1.out (intsV_one _) b2 b3 K1.out.size ?_
               intro v4 w4 hown4 hgr4
               simp only [Nat.zero_add, List.nil_append] at hown4
               have K4 : Hid (Keeps Non w3 w4) := Lib.hid (keeps_grown K1.out hgr4 B1.out)
               have z14 := non_cell K4.out z1
               have A4 := Lib.hid (non_at K4.out HA2.out)
               obtain ⟨a4, c4, rfl, _, _, _, _⟩ := own_at hown4
               have O4 := Lib.hid hown4
               clear hown4 hgr4)
            | (refine step_append_slice (by rfl) (.tmp 82) (.tmp 83) _ (by rfl) w3.heap.size 3 i0 _ 1 8 Tryz.underlying30 hi hz0 hz1 hz2 rfl (by decide) _ r.length _ (by rfl) O4.out a2 l.length c2 (intsV l) (by rfl) HNL.out HQ3.out A4.out (intsV_one _) b4 b5 K4.out.size ?_
               intro v5 w5 hown5 hgr5
               have K5 : Hid (Keeps Non w3 w5) := Lib.hid (keeps_grown K4.out hgr5 (own_base O4.out))
               have z15 := non_cell K5.out z1
               have zk5 := non_cell K5.out zk
               have zf5 := (non_frozen (p := ⟨gk, b, none⟩) K5.out m3).trans zf
               obtain ⟨a5, c5, rfl, _, _, _, _⟩ := own_at hown5
               have O5 := Lib.hid hown5
               clear hown5 hgr5))
          all_goals
            have hT5 := HT1.out.below (non_below K5.out)
            have hE := HT1.out.avoid
            have HP := Lib.hid (hT5.layK (i := b) (v := .slice a5 (r.length + l.length) c5) (l := r ++ l) (n := r.length + l.length) (B := w3.heap.size) (by rw [hUl]; exact hb') (by rw [List.length_append]) (by rw [intsV_append]; exact O5.out) hE)
            rw [HPD.out] at HP
            have HKK := Lib.hid ((Keeps.ofBelow (F := Three rb gn gk) HB2.out).trans ((HK1.out.trans (non_any K5.out)).set (p := ⟨gk, b, none⟩) (.inl (.inr (.inr rfl))) (.slice a5 (r.length + l.length) c5)))
            clear hT5 hE
            go_wp2_with fail
            go_ret
            exact ⟨rfl, by rw [← HLE.out, HF.out]; exact HP.out, HKK.out⟩

theorem rMove_any (T : TreeD) (rb gn gk : Nat) (w : World) (a b : Int) (hw : WF T) (hlen : T.nodes.length ≤ 1048576) (h : RefO w rb gn gk T) :
    Calls Tryz.prog 107 #[.pointer (some ⟨rb, 0, none⟩), .int .i64 a, .int .i64 b] w fun e w' => e = .returned (.int .i64 (moveE T a b).2) ∧ RefO w' rb gn gk (moveE T a b).1 ∧ Keeps (Three rb gn gk) w w' := by
  cases hok : (holdsF T a && holdsF T b && !belowF T b a)
  · have he : moveE T a b = (T, 47) := by rw [moveE, hok]; rfl
    rw [he]
    exact (rmove_no T rb gn gk w a b hw h hok).mono fun e w' ⟨h1, h2⟩ => by
      subst h2
      exact ⟨h1, h, Keeps.refl _ _⟩
  · have he : moveE T a b = (moveF T b (kidsF T a), 0) := by rw [moveE, hok]; rfl
    rw [he]
    simp only [Bool.and_eq_true, Bool.not_eq_true'] at hok
    obtain ⟨⟨h1, h2⟩, h3⟩ := hok
    have ha := holdsF_lt hw.pos h1
    have hb := holdsF_lt hw.pos h2
    obtain ⟨a, rfl⟩ := Int.eq_ofNat_of_zero_le ha.1
    obtain ⟨b, rfl⟩ := Int.eq_ofNat_of_zero_le hb.1
    exact rmove_yes T rb gn gk w a b hw hlen h h1 h2 h3
end Go.Proofs.YtclflmjpdglgiaaGreat
