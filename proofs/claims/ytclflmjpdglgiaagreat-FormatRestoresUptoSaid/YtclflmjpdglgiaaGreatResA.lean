/-
  What was cut off is formed again: plain Lean; the program's list: still, Restore. No conditions beyond those that each lemma types.
-/
import Derived.Test.YtclflmjpdglgiaaGreatFmE
import Derived.Deep.RegionLaw
import Derived.BigQuiet
import Derived.Deep.Cut
import Derived.Deep.CutRange
import Derived.Deep.CutBlock
import Derived.Deep.RegionHeld3
namespace Go.Proofs.YtclflmjpdglgiaaGreat
open Go.RowKit Mem

/-- a later tree: no fewer nodes, the same bound, elements stay elements -/
def Mor (T U : TreeD) : Prop := T.nodes.length ≤ U.nodes.length ∧ U.most = T.most ∧ ∀ x, elemF T x = true → elemF U x = true
theorem Mor.refl (T : TreeD) : Mor T T := ⟨Nat.le_refl _, rfl, fun _ h => h⟩
theorem Mor.trans {T U V : TreeD} (h : Mor T U) (k : Mor U V) : Mor T V := ⟨Nat.le_trans h.1 k.1, k.2.1.trans h.2.1, fun x hx => k.2.2 x (h.2.2 x hx)⟩
theorem addF_mor (T : TreeD) (d : ND) : Mor T (addF T d) := by
  refine ⟨by simp [addF], rfl, fun x hx => ?_⟩
  obtain ⟨i, hi, rfl, h1, _⟩ := elemF_nat hx
  rw [addF_elem T d i hi]
  exact hx
theorem mkF_mor (T : TreeD) (d : ND) : Mor T (mkF T d).1 := by
  unfold mkF
  split
  · exact addF_mor T d
  · exact Mor.refl T
theorem likeF_mor (T : TreeD) (n : Int) : Mor T (likeF T n).1 := by
  unfold likeF
  split
  · exact mkF_mor _ _
  · exact Mor.refl T
theorem elemF_modZ (T : TreeD) (n : Int) (f : ND → ND) (hf : ∀ d, (f d).elem = d.elem) (x : Int) : elemF (modN T n f) x = elemF T x := by
  rw [show modN T n f = modN T ((n.toNat : Nat) : Int) f from by unfold modN; rw [Int.toNat_natCast]]
  exact elemF_mod T n.toNat f hf x
theorem insertF_elemZ (T : TreeD) (a : Int) (i : Nat) (n x : Int) : elemF (insertF T a i n) x = elemF T x := by
  unfold insertF
  rw [elemF_modZ _ _ (setParent a) (fun _ => rfl), elemF_modZ _ _ (setKids _) (fun _ => rfl)]
theorem takeF_elemZ (T : TreeD) (n x : Int) : elemF (takeF T n) x = elemF T x := by
  unfold takeF
  rw [elemF_modZ _ _ (setParent (-1)) (fun _ => rfl)]
  unfold kidsOff
  split
  · rw [elemF_modZ _ _ (setKids _) (fun _ => rfl)]
  · rfl
theorem putF_elem (T : TreeD) (a b n x : Int) : elemF (putF T a b n) x = elemF T x := by rw [putF, insertF_elemZ, takeF_elemZ]
theorem putE_mor (T : TreeD) (a b n : Int) : Mor T (putE T a b n).1 := by
  unfold putE
  split
  · exact ⟨Nat.le_of_eq (putF_len ..).symm, putF_most .., fun x hx => by rw [putF_elem]; exact hx⟩
  · exact Mor.refl T
theorem takeE_mor (T : TreeD) (n : Int) : Mor T (takeE T n).1 := by
  unfold takeE
  split
  · exact ⟨Nat.le_of_eq (takeF_len ..).symm, takeF_most .., fun x hx => (takeF_elemZ T n x).trans hx⟩
  · exact Mor.refl T
theorem moveE_mor (T : TreeD) (a b : Int) : Mor T (moveE T a b).1 := by
  unfold moveE
  split
  · have : ∀ (l : List Int) (U : TreeD), Mor T U → Mor T (moveF U b l) := by
      intro l
      induction l with
      | nil => exact fun _ h => h
      | cons x r ih => exact fun U h => ih _ (h.trans (putE_mor _ _ _ _))
    exact this _ _ (Mor.refl T)
  · exact Mor.refl T
theorem textE_mor (T : TreeD) (a b : Int) (s : ByteArray) : Mor T (textE T a b s).1 := by
  unfold textE
  split
  · split
    · exact Mor.refl T
    · unfold textAt
      split
      · exact ⟨Nat.le_of_eq (modN_len ..).symm, rfl, fun x hx => (elemF_modZ _ _ (addText s) (fun _ => rfl) x).trans hx⟩
      · split
        · refine (addF_mor T (textN s)).trans ⟨Nat.le_of_eq (insertF_len ..).symm, rfl, fun x hx => (insertF_elemZ _ _ _ _ x).trans hx⟩
        · exact Mor.refl T
  · exact Mor.refl T
theorem insertL_mor (T : TreeD) (l : List Int) (on : Bool) (sp : Int) (nm : ByteArray) (at' : List Pair) : Mor T (insertL T l on sp nm at').1 := by
  unfold insertL
  simp only
  split
  · exact (mkF_mor _ _).trans (putE_mor _ _ _ _)
  · exact mkF_mor _ _
/-- an element more, or none -/
theorem insertL_yes {T : TreeD} (hm : (T.nodes.length : Int) - 1 < T.most) (l : List Int) (on : Bool) (sp : Int) (nm : ByteArray) (at' : List Pair) :
    (insertL T l on sp nm at').2.1 = l ++ [(T.nodes.length : Int)] ∧ (insertL T l on sp nm at').2.2 = ((T.nodes.length : Int), 0) ∧ (insertL T l on sp nm at').1.nodes.length = T.nodes.length + 1 := by
  have e : mkF T (elemN sp nm at') = (addF T (elemN sp nm at'), (T.nodes.length : Int), 0) := by rw [mkF, if_pos hm]
  unfold insertL
  rw [e]
  refine ⟨rfl, rfl, ?_⟩
  show (putE _ _ _ _).1.nodes.length = _
  have h : ∀ (U : TreeD) (a b n : Int), (putE U a b n).1.nodes.length = U.nodes.length := fun U a b n => by
    unfold putE
    split
    · exact putF_len ..
    · rfl
  rw [h]
  simp [addF]
theorem insertL_no {T : TreeD} (hm : ¬ (T.nodes.length : Int) - 1 < T.most) (l : List Int) (on : Bool) (sp : Int) (nm : ByteArray) (at' : List Pair) : insertL T l on sp nm at' = (T, l, 0, 43) := by
  have e : mkF T (elemN sp nm at') = (T, 0, 43) := by rw [mkF, if_neg hm]
  unfold insertL
  rw [e]
  rfl
theorem insertL_len (T : TreeD) (l : List Int) (on : Bool) (sp : Int) (nm : ByteArray) (at' : List Pair) : (insertL T l on sp nm at').2.1.length ≤ l.length + 1 := by
  by_cases hm : (T.nodes.length : Int) - 1 < T.most
  · rw [(insertL_yes hm l on sp nm at').1]; simp
  · rw [insertL_no hm]; exact Nat.le_succ _

/-- a marker, or still open? -/
def stillB (l : List Int) (x : Int) : Bool := decide (x = -1) || decide (0 ≤ rfind l x)
def begR (l : List Int) : List Int → Nat
  | [] => 0
  | x :: r => if stillB l x then r.length + 1 else begR l r
/-- where the entries begin that are formed again -/
def begF (l ent : List Int) : Nat := begR l ent.reverse
theorem begR_step (l ent : List Int) (k : Nat) (h : k < ent.length) : begR l (ent.take (k + 1)).reverse = if stillB l ent[k] then k + 1 else begR l (ent.take k).reverse := by
  rw [List.take_succ_eq_append_getElem h, List.reverse_append, List.reverse_singleton, List.singleton_append, begR, List.length_reverse, List.length_take, Nat.min_eq_left (by omega)]
theorem begR_le (l : List Int) : ∀ r : List Int, begR l r ≤ r.length
  | [] => Nat.le_refl _
  | x :: r => by
    rw [begR]
    split
    · exact Nat.le_refl _
    · exact Nat.le_succ_of_le (begR_le l r)
theorem begF_le (l ent : List Int) : begF l ent ≤ ent.length := by
  have := begR_le l ent.reverse
  rwa [List.length_reverse] at this
/-- behind it nothing is still open; ahead of it something is -/
theorem begF_spec (l ent : List Int) : (∀ (k : Nat) (h : k < ent.length), begF l ent ≤ k → stillB l ent[k] = false) ∧ (0 < begF l ent → ∃ h : begF l ent - 1 < ent.length, stillB l ent[begF l ent - 1] = true) := by
  have key : ∀ n : Nat, n ≤ ent.length → (∀ (k : Nat) (h : k < ent.length), k < n → begR l (ent.take n).reverse ≤ k → stillB l ent[k] = false) ∧ (0 < begR l (ent.take n).reverse → ∃ h : begR l (ent.take n).reverse - 1 < ent.length, stillB l ent[begR l (ent.take n).reverse - 1] = true) := by
    intro n
    induction n with
    | zero => exact fun _ => ⟨fun k _ h => absurd h (Nat.not_lt_zero k), fun h => by simp [begR] at h⟩
    | succ n ih =>
      intro hn
      obtain ⟨h1, h2⟩ := ih (by omega)
      rw [begR_step l ent n (by omega)]
      cases hs : stillB l ent[n]
      · simp only [Bool.false_eq_true, if_false]
        refine ⟨fun k h hk hb => ?_, h2⟩
        rcases Nat.lt_or_ge k n with hlt | hge
        · exact h1 k h hlt hb
        · obtain rfl : k = n := by omega
          exact hs
      · simp only [if_true]
        exact ⟨fun k h hk hb => by omega, fun _ => ⟨by omega, by simpa using hs⟩⟩
  have := key ent.length (Nat.le_refl _)
  rw [List.take_of_length_le (Nat.le_refl _)] at this
  exact ⟨fun k h hb => this.1 k h h hb, this.2⟩
theorem begF_eq {l ent : List Int} {n : Nat} (h1 : ∀ (k : Nat) (h : k < ent.length), n ≤ k → stillB l ent[k] = false) (h2 : 0 < n → ∃ h : n - 1 < ent.length, stillB l ent[n - 1] = true) : begF l ent = n := by
  obtain ⟨k1, k2⟩ := begF_spec l ent
  have hle := begF_le l ent
  rcases Nat.lt_trichotomy (begF l ent) n with h | h | h
  · obtain ⟨hl, hs⟩ := h2 (by omega)
    have := k1 (n - 1) hl (by omega)
    rw [this] at hs
    cases hs
  · exact h
  · obtain ⟨hl, hs⟩ := k2 (by omega)
    have := h1 (begF l ent - 1) hl (by omega)
    rw [this] at hs
    cases hs

/-- so many entries from a place on are formed again: tree, open elements, entries; the error -/
noncomputable def restR (on : Bool) : Nat → Nat → AS → AS × Int
  | 0, _, S => (S, 0)
  | r + 1, i, S =>
    if (insertL S.T S.l on (spaceQ S.T (S.ent.getD i 0)) (nameQ S.T (S.ent.getD i 0)) (attrsQ S.T (S.ent.getD i 0))).2.2.2 = 0 then
      restR on r (i + 1) ⟨(insertL S.T S.l on (spaceQ S.T (S.ent.getD i 0)) (nameQ S.T (S.ent.getD i 0)) (attrsQ S.T (S.ent.getD i 0))).1, (insertL S.T S.l on (spaceQ S.T (S.ent.getD i 0)) (nameQ S.T (S.ent.getD i 0)) (attrsQ S.T (S.ent.getD i 0))).2.1, S.ent.set i (insertL S.T S.l on (spaceQ S.T (S.ent.getD i 0)) (nameQ S.T (S.ent.getD i 0)) (attrsQ S.T (S.ent.getD i 0))).2.2.1⟩
    else (⟨(insertL S.T S.l on (spaceQ S.T (S.ent.getD i 0)) (nameQ S.T (S.ent.getD i 0)) (attrsQ S.T (S.ent.getD i 0))).1, (insertL S.T S.l on (spaceQ S.T (S.ent.getD i 0)) (nameQ S.T (S.ent.getD i 0)) (attrsQ S.T (S.ent.getD i 0))).2.1, S.ent⟩, (insertL S.T S.l on (spaceQ S.T (S.ent.getD i 0)) (nameQ S.T (S.ent.getD i 0)) (attrsQ S.T (S.ent.getD i 0))).2.2.2)
noncomputable def restL (on : Bool) (S : AS) : AS × Int := restR on (S.ent.length - begF S.l S.ent) (begF S.l S.ent) S

section
variable {w0 w w' : World} {B B' tb sb lb : Nat} {ex : Nat → Prop} {T T' : TreeD} {l l' ent ent' : List Int} {on on' : Bool}
set_option maxRecDepth 100000 in
theorem still_li (h : LI w0 B tb sb lb ex T l ent on w) (k : Nat) (hk : k < ent.length) (i : Int) (hi : i = (k : Int)) :
    Calls Tryz.prog 39 #[.pointer (some ⟨lb, 0, none⟩), .int .i64 i] w fun e w' => e = .returned (.bool (stillB l ent[k])) ∧ ∃ q, w' = w.drewN q := by
  subst hi
  obtain ⟨sa, sc, c0, c1, c2, c3, hA, hcm, hcl⟩ := h.cells
  obtain ⟨b, o, rfl, e1⟩ := hA _ _ (intsV_get ent k hk)
  have HL := Lib.hid h
  have HF := Lib.hid (fun u (hu : LI w0 B tb sb lb ex T l ent on u) => SFind_li hu ent[k])
  have HS := Lib.hid (show stillB l ent[k] = (decide (ent[k] = -1) || decide (0 ≤ rfind l ent[k])) from rfl)
  obtain ⟨x, hx⟩ : ∃ x, x = ent[k] := ⟨_, rfl⟩
  rw [← hx] at e1 HF HS ⊢
  unfold maxLen at hcm
  clear hx h hA
  by_cases h1 : x = -1
  · have he : (x == -1) = true := by simpa using h1
    have HS2 : Hid (stillB l x = true) := Lib.hid (by rw [HS.out, decide_eq_true h1]; rfl)
    clear h1
    go_enter Tryz.func39, Tryz.ntmps39
    go_wp2_with fail
    go_quiet (fail)
    go_wp2_with fail
    go_ret
    exact ⟨ret_bool HS2.out.symm, _, rfl⟩
  · have he : (x == -1) = false := by simpa using h1
    have HS2 : Hid (stillB l x = decide (0 ≤ rfind l x)) := Lib.hid (by rw [HS.out, decide_eq_false h1]; rfl)
    clear h1
    generalize rfind l x = p at *
    go_enter Tryz.func39, Tryz.ntmps39
    go_wp2_with fail
    go_quiet ((go_at_call 9; exact (HF.out _ (HL.out.world (stk_drewN _ _))).mono fun e w' ⟨he, hw⟩ => ⟨he, _, hw.symm⟩))
    go_wp2_with fail
    go_ret
    exact ⟨ret_bool HS2.out.symm, _, rfl⟩

set_option maxRecDepth 100000 in
set_option maxHeartbeats 8000000 in
theorem Restore_li (h : LI w0 B tb sb lb ex T l ent on w) (hle : l.length + ent.length < 1000000) :
    Calls Tryz.prog 11 #[.pointer (some ⟨lb, 0, none⟩)] w fun e w' => e = .returned (.int .i64 (restL on ⟨T, l, ent⟩).2) ∧ LI w0 B tb sb lb ex (restL on ⟨T, l, ent⟩).1.T (restL on ⟨T, l, ent⟩).1.l (restL on ⟨T, l, ent⟩).1.ent on w' ∧ Keeps (Own w0 ex) w w' := by
  obtain ⟨sa, sc, c0, c1, c2, c3, -, hcm, -⟩ := h.cells
  unfold maxLen at hcm
  have HL := Lib.hid h
  have HB0 := Lib.hid (show begF l ent = begR l ent.reverse from rfl)
  have HBl := begF_le l ent
  have HR0 : Hid (restL on ⟨T, l, ent⟩ = restR on (ent.length - begF l ent) (begF l ent) ⟨T, l, ent⟩) := Lib.hid rfl
  obtain ⟨bg, hbg⟩ : ∃ bg, bg = begF l ent := ⟨_, rfl⟩
  rw [← hbg] at HB0 HBl HR0
  have HT0 := Lib.hid (show ent.take ent.length = ent from List.take_of_length_le (Nat.le_refl _))
  clear h hbg
  go_enter Tryz.func11, Tryz.ntmps11
  go_upto_block 0 with fail
  go_cut [3] from 6 to 21 (fun s3 wx => s3 = .int .i64 bg ∧ Hid (Below w.heap.size w wx))
  case first =>
    go_wp2_with fail
    go_loopw [3] (fun i wr => ∃ k : Nat, k ≤ ent.length ∧ i = .int .i64 k ∧ Hid (Below w.heap.size w wr) ∧ Hid (bg = begR l (ent.take k).reverse)) (fun i _ => (intOf i).toNat)
    case atStart => exact ⟨ent.length, Nat.le_refl _, rfl, Lib.hid (Below.refl _ _), Lib.hid (by rw [HB0.out, HT0.out])⟩
    case round =>
      obtain ⟨k, hk, rfl, HBr, HV⟩ := hrel
      cases k with
      | zero =>
        go_wp2_with fail
        go_meet
        exact ⟨by rw [HV.out]; rfl, HBr⟩
      | succ k =>
        have hlt : k < ent.length := by omega
        have hw1 : IntKind.i64.wrap (((k + 1 : Nat) : Int) - 1) = (k : Int) := by rw [IntKind.wrap_i64]; omega
        have HSt := Lib.hid (still_li (HL.out.world HBr.out) k hlt k rfl)
        have HST := Lib.hid (begR_step l ent k hlt)
        cases hs : stillB l ent[k]
        · rw [hs] at HSt HST
          go_wp2_with (go_at_call 39; go_must (refine HSt.out.mono ?_; rintro e w2 ⟨rfl, q, rfl⟩))
          go_roundw
          case rel => exact ⟨k, by omega, by go_num, Lib.hid (belowCall HBr.out (stk_drewN _ _)), Lib.hid (by rw [HV.out, HST.out]; rfl)⟩
          case measure => simp [intOf]
        · rw [hs, if_pos rfl] at HST
          go_wp2_with (go_at_call 39; go_must (refine HSt.out.mono ?_; rintro e w2 ⟨rfl, q, rfl⟩))
          go_meet
          exact ⟨(by rw [HV.out, HST.out]; go_num), Lib.hid (belowCall HBr.out (stk_drewN _ _))⟩
  case rest =>
  obtain ⟨rfl, HBc⟩ := hcut
  have HLc := Lib.hid (HL.out.world HBc.out)
  have HKc := Lib.hid (Keeps.ofBelow (F := Own w0 ex) HBc.out)
  clear c0 c1 c2 c3 HL HT0 HB0 hcm
  go_wp2_with fail
  go_loopw [3] (fun i wr => ∃ (k : Nat) (S : AS), bg ≤ k ∧ k ≤ ent.length ∧ i = .int .i64 k ∧ Hid (LI w0 B tb sb lb ex S.T S.l S.ent on wr) ∧ Hid (Keeps (Own w0 ex) w wr) ∧ Hid (restL on ⟨T, l, ent⟩ = restR on (ent.length - k) k S) ∧ S.ent.length = ent.length ∧ S.l.length ≤ l.length + k) (fun i _ => ent.length - (intOf i).toNat)
  case atStart => exact ⟨bg, ⟨T, l, ent⟩, Nat.le_refl _, HBl, rfl, HLc, HKc, HR0, rfl, by simp⟩
  case round =>
    obtain ⟨k, S, hk1, hk2, rfl, HLr, HKr, HV, hse, hsl⟩ := hrel
    obtain ⟨T1, l1, e1⟩ := S
    simp only at HLr HV hse hsl ⊢
    obtain ⟨sa1, sc1, g0, g1, g2, g3, hA, hcm, hcl⟩ := HLr.out.cells
    unfold maxLen at hcm
    by_cases hlt : k < ent.length
    · obtain ⟨r, hr⟩ : ∃ r, ent.length - k = r + 1 := ⟨ent.length - k - 1, by omega⟩
      have hlt1 : k < e1.length := by omega
      obtain ⟨b, o, rfl, f1⟩ := hA _ _ (intsV_get e1 k hlt1)
      have hgd : e1.getD k 0 = e1[k] := by simp [List.getD, List.getElem?_eq_getElem hlt1]
      have HV2 := HV
      rw [hr, restR] at HV2
      simp only [hgd] at HV2
      have hatt := attrsQ_short HLr.out.att e1[k]
      have HLd := Lib.hid (HLr.out.world (Below.refl wr.heap.size wr).drew)
      have HW := Lib.hid (What_li HLd.out e1[k])
      have hl1 : l1.length < 1000000 := by omega
      have HIn := Lib.hid (fun u (hu : LI w0 B tb sb lb ex T1 l1 e1 on u) (a : Option Addr) (c : Nat) (hc : a = none → c = 0) (ha : At u a (pairsV (attrsQ T1 e1[k]))) => Insert_li hu hl1 (spaceQ T1 e1[k]) (nameQ T1 e1[k]) (attrsQ T1 e1[k]) _ a c rfl hc hatt ha)
      have HIl := Lib.hid (insertL_len T1 l1 on (spaceQ T1 e1[k]) (nameQ T1 e1[k]) (attrsQ T1 e1[k]))
      have hHR := Lib.hid hr
      obtain ⟨x, hx⟩ : ∃ x, x = e1[k] := ⟨_, rfl⟩
      rw [← hx] at f1 HW
      simp only [← hx] at HV2 HIn HIl hatt
      generalize attrsQ T1 x = xa at *
      generalize spaceQ T1 x = xs at *
      generalize nameQ T1 x = xn at *
      generalize insertL T1 l1 on xs xn xa = q at *
      obtain ⟨T2, l2, n2, er⟩ := q
      simp only at HV2 HIn HIl
      rw [hse] at g2
      clear hA hx hgd hr HV
      go_wp2_with fail
      go_region_law (first
        | (go_simp; go_at_call 40; refine HW.out.mono ?_
           rintro e w2 ⟨v, rfl, ho2, hb2⟩
           obtain ⟨a2, c2, rfl, _, _, hn2, hat2⟩ := own_at ho2
           have H2 := Lib.hid (HLd.out.world hb2)
           have K2 := Lib.hid (Keeps.ofBelow (F := Own w0 ex) hb2)
           have A2 := Lib.hid hat2
           have N2 := Lib.hid hn2
           clear ho2 hat2 hn2)
        | (go_simp; go_at_call 16; refine (HIn.out _ H2.out _ _ N2.out A2.out).mono ?_
           rintro e w3 ⟨rfl, h3, k3⟩
           have H3 := Lib.hid h3
           have K3 := Lib.hid k3
           clear h3 k3))
      all_goals
        have K3' := Lib.hid ((HKr.out.trans (Keeps.ofBelow (F := Own w0 ex) (Below.refl wr.heap.size wr).drew)).trans (K2.out.trans K3.out))
        by_cases h0 : er = 0
        · rw [if_pos h0] at HV2
          subst h0
          obtain ⟨gS, cS, s0, s1, s2, s3, s4, s5, s6, s7, s8⟩ := H3.out.set k hlt1
          rw [hse] at s2 s3
          have HS8 := Lib.hid (s8 n2)
          have HSE : Hid ((e1.set k n2).length = ent.length) := Lib.hid (by rw [List.length_set]; exact hse)
          unfold maxLen at s4
          clear s8
          go_wp2_with fail
          go_roundw
          case rel => exact ⟨k + 1, ⟨T2, l2, e1.set k n2⟩, by omega, by omega, by go_num, Lib.hid HS8.out.1, Lib.hid (K3'.out.trans HS8.out.2), Lib.hid (by rw [HV2.out]; congr 1; have := hHR.out; omega), HSE.out, by have := HIl.out; show l2.length ≤ _; omega⟩
          case measure => simp [intOf]; omega
        · rw [if_neg h0] at HV2
          have he' : (er != 0) = true := by simpa using h0
          clear h0
          go_wp2_with fail
          go_ret
          rw [HV2.out]
          exact ⟨rfl, H3.out, K3'.out⟩
    · obtain rfl : k = ent.length := by omega
      have HE : Hid (restL on ⟨T, l, ent⟩ = (⟨T1, l1, e1⟩, 0)) := Lib.hid (by rw [HV.out, Nat.sub_self]; rfl)
      rw [hse] at g2
      clear hA
      go_wp2_with fail
      go_ret
      rw [HE.out]
      exact ⟨rfl, HLr.out, HKr.out⟩
end
end Go.Proofs.YtclflmjpdglgiaaGreat
