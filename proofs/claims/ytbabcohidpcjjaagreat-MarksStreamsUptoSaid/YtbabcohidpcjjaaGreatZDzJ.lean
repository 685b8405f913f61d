import Derived.Test.YtbabcohidpcjjaaGreatDzBase
import Derived.Test.YtbabcohidpcjjaaGreatZRefD
import Derived.Deep.DeepCutAuto
import Derived.Deep.CutBlock
/-
  Contract: the document's tag. (Seat 4's '.Z'; printed by wip/dzj_gen.py.)
-/
namespace Go.Proofs.YtbabcohidpcjjaaGreat
open Go.RowKit Mem

/-! plain: how far a text's part goes -/
theorem scan (pr : UInt8 → Bool) (T : ByteArray) (j : Nat) (hj : j ≤ T.size) : ∃ p, j ≤ p ∧ p ≤ T.size ∧ (T.toList.drop j).takeWhile pr = (T.toList.drop j).take (p - j) ∧ (T.toList.drop j).dropWhile pr = T.toList.drop p ∧ (∀ x (h : x < T.size), j ≤ x → x < p → pr T[x] = true) ∧ (∀ h : p < T.size, pr T[p] = false) := by
  obtain ⟨n, h1, h2, h3, h4, h5⟩ := while_split pr (T.toList.drop j)
  rw [List.length_drop, size_toList] at h1
  rw [List.drop_drop] at h3 h5
  refine ⟨j + n, by omega, by omega, by rw [Nat.add_sub_cancel_left]; exact h2, h3, fun x h hx1 hx2 => h4 _ ?_, fun h => h5 _ _ (list_at T (j + n) h)⟩
  have : ((T.toList.drop j).take n)[x - j]? = some T[x] := by
    rw [List.getElem?_take_of_lt (by omega), List.getElem?_drop, show j + (x - j) = x from by omega]
    exact raw_byte h
  exact List.mem_of_getElem? this
theorem name_scan (T : ByteArray) (p : Nat) (hp : p ≤ T.size) : ∃ e, p ≤ e ∧ e ≤ T.size ∧ nameG (T.toList.drop p) = (T.toList.drop p).take (e - p) ∧ restG (T.toList.drop p) = T.toList.drop e ∧ (p < T.size → p < e) ∧ (∀ x (h : x < T.size), p < x → x < e → (!signA.contains T[x]) = true) ∧ (∀ h : e < T.size, (!signA.contains T[e]) = false) := by
  by_cases h : p < T.size
  · obtain ⟨e, h1, h2, h3, h4, h5, h6⟩ := scan (fun c => !signA.contains c) T (p + 1) h
    refine ⟨e, by omega, h2, ?_, ?_, fun _ => h1, fun x hx a b => h5 x hx a b, h6⟩
    · rw [list_at T p h]
      simp only [nameG]
      rw [h3, show e - p = (e - (p + 1)) + 1 from by omega, List.take_succ_cons]
    · rw [list_at T p h]
      simp only [restG]
      rw [h4]
  · obtain rfl : p = T.size := by omega
    have e0 : T.toList.drop T.size = [] := List.drop_of_length_le (by rw [size_toList]; omega)
    refine ⟨T.size, Nat.le_refl _, Nat.le_refl _, ?_, ?_, fun hh => absurd hh h, fun x hx a b => by omega, fun hh => absurd hh h⟩
    · rw [e0, List.take_nil]; rfl
    · rw [e0]; rfl
theorem setT (c : UInt8) : (!signT.contains c) = (!spaceB c && ((c.toNat : Int) != 47) && ((c.toNat : Int) != 62)) := by
  have h : ∀ n : Fin 256, (!signT.contains (UInt8.ofNat n.val)) = (!spaceB (UInt8.ofNat n.val) && (((UInt8.ofNat n.val).toNat : Int) != 47) && (((UInt8.ofNat n.val).toNat : Int) != 62)) := by decide +kernel
  have hc := h ⟨c.toNat, c.toNat_lt⟩
  simp only [UInt8.ofNat_toNat] at hc
  exact hc
theorem setA (c : UInt8) : (!signA.contains c) = (!spaceB c && ((c.toNat : Int) != 47) && ((c.toNat : Int) != 62) && ((c.toNat : Int) != 61)) := by
  have h : ∀ n : Fin 256, (!signA.contains (UInt8.ofNat n.val)) = (!spaceB (UInt8.ofNat n.val) && (((UInt8.ofNat n.val).toNat : Int) != 47) && (((UInt8.ofNat n.val).toNat : Int) != 62) && (((UInt8.ofNat n.val).toNat : Int) != 61)) := by decide +kernel
  have hc := h ⟨c.toNat, c.toNat_lt⟩
  simp only [UInt8.ofNat_toNat] at hc
  exact hc
theorem setV (c : UInt8) : (!signV.contains c) = (!spaceB c && ((c.toNat : Int) != 62)) := by
  have h : ∀ n : Fin 256, (!signV.contains (UInt8.ofNat n.val)) = (!spaceB (UInt8.ofNat n.val) && (((UInt8.ofNat n.val).toNat : Int) != 62)) := by decide +kernel
  have hc := h ⟨c.toNat, c.toNat_lt⟩
  simp only [UInt8.ofNat_toNat] at hc
  exact hc
theorem setGap (c : UInt8) : gapB c = (spaceB c || ((c.toNat : Int) == 47)) := by
  have h : ∀ n : Fin 256, gapB (UInt8.ofNat n.val) = (spaceB (UInt8.ofNat n.val) || (((UInt8.ofNat n.val).toNat : Int) == 47)) := by decide +kernel
  have hc := h ⟨c.toNat, c.toNat_lt⟩
  simp only [UInt8.ofNat_toNat] at hc
  exact hc
theorem ext_upto (T : ByteArray) (i e : Nat) (h : i ≤ e) : T.extract i e = strB ((T.toList.drop i).take (e - i)) := by
  have := ext_mid T i (e - i)
  rwa [show i + (e - i) = e from by omega] at this
theorem no_byte {T : ByteArray} {p : Nat} {c : UInt8} (h : ∀ hp : p < T.size, T[p] ≠ c) (r : Str) : T.toList.drop p ≠ c :: r := fun e => by
  by_cases hp : p < T.size
  · rw [list_at T p hp] at e
    exact h hp (List.cons.inj e).1
  · rw [List.drop_of_length_le (by rw [size_toList]; omega)] at e
    cases e
theorem attrG_bare {T : ByteArray} {p q : Nat} (h : (restG (T.toList.drop p)).dropWhile spaceB = T.toList.drop q) (hn : ∀ hq : q < T.size, T[q] ≠ 61) : attrG (T.toList.drop p) = some ((lowS (nameG (T.toList.drop p)), []), T.toList.drop q) := by
  unfold attrG
  rw [h]
  cases hd : T.toList.drop q with
  | nil => rfl
  | cons d r =>
    simp only
    rw [if_neg]
    intro e
    exact no_byte hn r (by rw [hd, e])
theorem attrG_val {T : ByteArray} {p q : Nat} (h : (restG (T.toList.drop p)).dropWhile spaceB = T.toList.drop q) (hq : q < T.size) (h61 : T[q] = 61) : attrG (T.toList.drop p) = (valG (T.toList.drop (q + 1))).map fun v => ((lowS (nameG (T.toList.drop p)), allS v.1 true), v.2) := by
  unfold attrG
  rw [h, list_at T q hq, h61]
  exact if_pos rfl
theorem valG_open {T : ByteArray} {k q : Nat} (h : (T.toList.drop k).dropWhile spaceB = T.toList.drop q) (hn : ∀ hq : q < T.size, T[q] ≠ 34 ∧ T[q] ≠ 39) : valG (T.toList.drop k) = some ((T.toList.drop q).takeWhile (fun c => !signV.contains c), (T.toList.drop q).dropWhile (fun c => !signV.contains c)) := by
  unfold valG
  rw [h]
  cases hd : T.toList.drop q with
  | nil => rfl
  | cons d r =>
    simp only
    rw [if_neg]
    rintro (e | e)
    · exact no_byte (fun hq => (hn hq).1) r (by rw [hd, e])
    · exact no_byte (fun hq => (hn hq).2) r (by rw [hd, e])
theorem valG_quote {T : ByteArray} {k q : Nat} (h : (T.toList.drop k).dropWhile spaceB = T.toList.drop q) (hq : q < T.size) (hn : T[q] = 34 ∨ T[q] = 39) : valG (T.toList.drop k) = if q + 1 + firstN [T[q]] (T.toList.drop (q + 1)) = T.size then none else some ((T.toList.drop (q + 1)).take (firstN [T[q]] (T.toList.drop (q + 1))), T.toList.drop (q + 1 + firstN [T[q]] (T.toList.drop (q + 1)) + 1)) := by
  unfold valG
  rw [h, list_at T q hq]
  simp only
  rw [if_pos hn, quote_first, List.length_drop, size_toList]
  generalize firstN [T[q]] (T.toList.drop (q + 1)) = n
  by_cases hz : q + 1 + n = T.size
  · rw [if_pos hz, if_pos (by omega)]
    rfl
  · rw [if_neg hz, if_neg (by omega)]
    simp only [Option.map_some, List.drop_drop]
theorem hasA_one (al : List (Str × Str)) (n : Str) (j : Nat) (h : j < al.length) : hasA (al.take (j + 1)) n = (hasA (al.take j) n || al[j].1 == n) := by
  unfold hasA
  rw [List.take_succ_eq_append_getElem h, List.any_append]
  simp

/-! the document's Tag in memory -/
def tagV (en : Int) (nm : Str) (sl : Value) (sf : Bool) : Value := .agg #[.int .i64 en, .string (strB nm), sl, .bool sf]
def zeroTag : Array Value := #[.int .i64 0, .string ⟨#[]⟩, .slice none 0 0, .bool false]
theorem tag_info : (Tryz.prog.info? 92).map (·.size) = some 4 := by kernel_rfl
theorem results_one {P : Program} {fn : Func} {p : Tmp} {ty : TypeId} (h : fn.results = #[.cell p ty]) (tmps : Array Value) (w : World) (g : Nat) (e : TypeId) (cs : Array Value) (fr : Nat × Nat) (d : TypeDesc)
    (hp : tmps.getD p undef = .pointer (some ⟨g, 0, none⟩)) (hg : w.heap[g]? = some (.cells cs e fr))
    (hu : P.underlying ty = some d) (hd : (match d with | .struct _ | .array _ _ => true | _ => false) = true) (hi : (P.info? ty).map (·.size) = some cs.size) :
    (results fn tmps).run P w = .ok (.agg cs) w := by
  have hp' : tmps[p]?.getD undef = .pointer (some ⟨g, 0, none⟩) := by simpa using hp
  simp [results, h, hp', asAddr, run_loadVar_row w g e ty cs fr d hg hu hd hi]
theorem tag_cells {W : World} {g : Nat} {e : TypeId} {v0 v1 v2 v3 : Value} (h : W.heap[g]? = some (.cells #[v0, v1, v2, v3] e (0, 0))) :
    (W.cell? ⟨g, 0, none⟩ = some v0 ∧ W.cell? ⟨g, 1, none⟩ = some v1 ∧ W.cell? ⟨g, 2, none⟩ = some v2 ∧ W.cell? ⟨g, 3, none⟩ = some v3) ∧
    (W.frozen? ⟨g, 0, none⟩ = false ∧ W.frozen? ⟨g, 1, none⟩ = false ∧ W.frozen? ⟨g, 2, none⟩ = false ∧ W.frozen? ⟨g, 3, none⟩ = false) := by
  refine ⟨⟨?_, ?_, ?_, ?_⟩, ?_, ?_, ?_, ?_⟩ <;> simp [World.cell?, World.frozen?, h]
abbrev put4 (W : World) (g : Nat) (v0 v1 v2 v3 : Value) : World := (((W.setCell ⟨g, 0, none⟩ v0).setCell ⟨g, 1, none⟩ v1).setCell ⟨g, 2, none⟩ v2).setCell ⟨g, 3, none⟩ v3
theorem put4_at {W : World} {g : Nat} {e : TypeId} {x0 x1 x2 x3 : Value} (h : W.heap[g]? = some (.cells #[x0, x1, x2, x3] e (0, 0))) (v0 v1 v2 v3 : Value) : (put4 W g v0 v1 v2 v3).heap[g]? = some (.cells #[v0, v1, v2, v3] e (0, 0)) := by
  simp [put4, World.setCell, Array.getElem?_modify, h]
theorem put4_other {W : World} {g k : Nat} (hg : k ≠ g) (v0 v1 v2 v3 : Value) : (put4 W g v0 v1 v2 v3).heap[k]? = W.heap[k]? := by
  unfold put4
  rw [heap_setCell_other _ _ _ _ hg, heap_setCell_other _ _ _ _ hg, heap_setCell_other _ _ _ _ hg, heap_setCell_other _ _ _ _ hg]
theorem put4_below {W w : World} {g : Nat} (h : Below w.heap.size w W) (hg : w.heap.size ≤ g) (v0 v1 v2 v3 : Value) : Below w.heap.size w (put4 W g v0 v1 v2 v3) :=
  (((h.setCell hg _).setCell hg _).setCell hg _).setCell hg _
/-- what the document's tag answers -/
def DTagAt (base : Nat) (n : Nat) (o : Option (Str × List (Str × Str) × Bool × Str)) (e : Ending) (w' : World) : Prop := match o with
  | none => e = .returned (tagV 0 [] (.slice none 0 0) false)
  | some (nm, al, sf, r) => ∃ sl, e = .returned (tagV ((n - r.length : Nat) : Int) nm sl sf) ∧ w'.ownsRow base 56 2 sl al.length (pairsV (attP al))
/-- its blocks: the result R, the tag O; what it made besides lies behind -/
structure DW (w : World) (R O : Nat) (nm : Str) (sl : Value) (al : List (Str × Str)) (u : World) : Prop where
  zero : u.heap[R]? = some (.cells zeroTag 92 (0, 0))
  out : u.heap[O]? = some (.cells #[.int .i64 0, .string (strB nm), sl, .bool false] 92 (0, 0))
  own : u.ownsRow (O + 1) 56 2 sl al.length (pairsV (attP al))
  below : Below w.heap.size w u
  lt : w.heap.size ≤ R ∧ R < O ∧ O < u.heap.size
theorem DW.calm {w u u' : World} {R O : Nat} {nm : Str} {sl : Value} {al : List (Str × Str)} (h : DW w R O nm sl al u) (hb : Below u.heap.size u u') : DW w R O nm sl al u' := by
  have hl := h.lt
  exact ⟨zero_below h.zero hb (by omega), zero_below h.out hb (by omega), own_below h.own hb, belowCall h.below hb, by have := hb.size; omega⟩
/-- the same with the attribute that is read: block A -/
structure AW (w : World) (R O A : Nat) (nm : Str) (sl : Value) (al : List (Str × Str)) (an av : Str) (u : World) : Prop where
  dw : DW w R O nm sl al u
  attr : u.heap[A]? = some (.cells #[.string (strB an), .string (strB av)] 56 (0, 0))
  lt : O < A ∧ A < u.heap.size
  far : ∀ g, sl.ownBlock = some g → g ≠ A
theorem AW.calm {w u u' : World} {R O A : Nat} {nm : Str} {sl : Value} {al : List (Str × Str)} {an av : Str} (h : AW w R O A nm sl al an av u) (hb : Below u.heap.size u u') : AW w R O A nm sl al an av u' := by
  have hl := h.lt
  exact ⟨h.dw.calm hb, zero_below h.attr hb hl.2, ⟨hl.1, by have := hb.size; omega⟩, h.far⟩
theorem AW.start {w u : World} {R O : Nat} {nm : Str} {sl : Value} {al : List (Str × Str)} (h : DW w R O nm sl al u) (an av : Str) : AW w R O u.heap.size nm sl al an av (u.alloc (.cells #[.string (strB an), .string (strB av)] 56)) :=
  ⟨h.calm ((Below.refl _ _).alloc (Nat.le_refl _) _), heap_alloc_new _ _, ⟨h.lt.2.2, by simp⟩, fun g hg => by have := (h.own.lt g hg).2; omega⟩
theorem AW.put {w u : World} {R O A : Nat} {nm : Str} {sl : Value} {al : List (Str × Str)} {an av : Str} (h : AW w R O A nm sl al an av u) (v : Str) : AW w R O A nm sl al an v (u.setCell ⟨A, 1, none⟩ (.string (strB v))) := by
  have hl := h.lt
  have hd := h.dw.lt
  refine ⟨⟨res_set h.dw.zero (by omega), res_set h.dw.out (by omega), own_kept h.dw.own fun g hg => heap_setCell_other _ _ _ _ (h.far g hg), h.dw.below.setCell (by show w.heap.size ≤ A; omega) _, by rw [World.size_setCell]; exact hd⟩, ?_, by rw [World.size_setCell]; exact hl, h.far⟩
  have := h.attr
  simp [World.setCell, Array.getElem?_modify, this]
theorem DW.pushed {w u u' : World} {R O : Nat} {nm : Str} {sl v' : Value} {al al' : List (Str × Str)} (h : DW w R O nm sl al u) (hg : u.grownBy u' sl.ownBlock) (hown : u'.ownsRow (O + 1) 56 2 v' al'.length (pairsV (attP al'))) : DW w R O nm v' al' (u'.setCell ⟨O, 2, none⟩ v') := by
  have hl := h.lt
  have st : ∀ {k : Nat}, k ≤ O → u'.heap[k]? = u.heap[k]? := fun {k} hk => hg.block k (by omega) fun e => by have := (h.own.lt k e.symm).1; omega
  refine ⟨res_set ((st (by omega)).trans h.zero) (by omega), ?_, own_kept hown fun g hg' => heap_setCell_other _ _ _ _ (by show g ≠ O; have := (hown.lt g hg').1; omega), ?_, by rw [World.size_setCell]; have := hg.size; omega⟩
  · have := (st (Nat.le_refl _)).trans h.out
    simp [World.setCell, Array.getElem?_modify, this]
  · exact (h.below.trans ⟨hg.os, hg.tape, hg.output, hg.size, fun k hk => st (by omega)⟩ : Below w.heap.size w u').setCell (by show w.heap.size ≤ O; omega) _
theorem below_many {B : Nat} {a w : World} (h : Below B a w) (n : Nat) : Below B a (w.drewN n) := h.trans ⟨rfl, rfl, rfl, Nat.le_refl _, fun _ _ => rfl⟩
theorem AttrCells {W : World} {g : Nat} {e : TypeId} {a b : ByteArray} (h : W.heap[g]? = some (.cells #[.string a, .string b] e (0, 0))) :
    W.cell? ⟨g, 0, none⟩ = some (.string a) ∧ W.cell? ⟨g, 1, none⟩ = some (.string b) ∧ W.frozen? ⟨g, 0, none⟩ = false ∧ W.frozen? ⟨g, 1, none⟩ = false := by
  refine ⟨?_, ?_, ?_, ?_⟩ <;> simp [World.cell?, World.frozen?, h]
theorem DWstill {w u u' : World} {R O : Nat} {nm : Str} {sl : Value} {al : List (Str × Str)} (h : DW w R O nm sl al u) (hg : u.grownBy u' sl.ownBlock) : u'.heap[O]? = some (.cells #[.int .i64 0, .string (strB nm), sl, .bool false] 92 (0, 0)) :=
  (hg.block O h.lt.2.2 (fun e => by have := (h.own.lt O e.symm).1; omega)).trans h.out


set_option maxRecDepth 100000 in
set_option maxHeartbeats 16000000 in
theorem dtag_any (T : ByteArray) (i : Nat) (w : World) (hs : T.size ≤ 1000000) (hi : i ≤ T.size) :
    Calls Tryz.prog 47 #[.string T, .int .i64 i] w fun e w' => DTagAt w.heap.size T.size (tagG (T.toList.drop i)) e w' ∧ Below w.heap.size w w' := by
  obtain ⟨o, ho⟩ : ∃ o, o = tagG (T.toList.drop i) := ⟨_, rfl⟩
  rw [← ho]
  rw [tagG_eq] at ho
  obtain ⟨n, n1, n2, n3, n4, n5, n6⟩ := scan (fun c => !signT.contains c) T i hi
  rw [n3, n4] at ho
  obtain ⟨nm, hnm⟩ : ∃ nm, nm = lowS ((T.toList.drop i).take (n - i)) := ⟨_, rfl⟩
  rw [← hnm] at ho
  have hlo : ∀ u, Calls Tryz.prog 60 #[.string (strB ((T.toList.drop i).take (n - i)))] u fun r w' => r = .returned (.string (strB nm)) ∧ Below u.heap.size u w' := fun u => by
    have h := Lower_any (strB ((T.toList.drop i).take (n - i))) u (by rw [strB_size, List.length_take]; unfold maxLen; omega)
    rw [toList_strB, ← hnm] at h
    exact h
  obtain ⟨X, hX⟩ : ∃ X, X = tagsF [] (T.toList.drop n) := ⟨_, rfl⟩
  rw [← hX] at ho
  have HLO := Lib.hid hlo
  have HO := Lib.hid ho
  have HX := Lib.hid hX
  have N5 := Lib.hid n5
  have N6 := Lib.hid n6
  have hext := ext_upto T i n n1
  have n1i : (i : Int) ≤ (n : Int) := by omega
  have n2i : (n : Int) ≤ (T.size : Int) := by omega
  have HR0 := Lib.hid (heap_alloc_new w (.cells zeroTag 92))
  have HB0 := Lib.hid ((Below.refl w.heap.size w).alloc (Nat.le_refl _) (.cells zeroTag 92))
  have hz0 : w.heap.size < (w.alloc (.cells zeroTag 92)).heap.size := by simp
  obtain ⟨w0, hw0⟩ : ∃ w0, w0 = w.alloc (.cells zeroTag 92) := ⟨_, rfl⟩
  rw [← hw0] at HR0 HB0 hz0
  have HW0 : Hid (w0 = w.alloc (.cells #[.int .i64 0, .string ⟨#[]⟩, .slice none 0 0, .bool false] 92)) := hw0
  clear hlo ho hX hnm n3 n4 n5 n6 hw0
  go_enter Tryz.func47, Tryz.ntmps47

  go_upto_block 0 with fail
  rw [← HW0.out]
  clear HW0
  go_cut [1] (fun v wx => v = .int .i64 n ∧ w0 = wx)
  case first =>
    as_aux_lemma =>
      go_wp2_with fail
      go_loopg [1] (n - i) (fun g v wi => ∃ x : Nat, i ≤ x ∧ x ≤ n ∧ n - x ≤ g ∧ v = .int .i64 x ∧ w0 = wi)
      case atStart => exact ⟨i, Nat.le_refl _, by omega, Nat.le_refl _, rfl, rfl⟩
      case round =>
        obtain ⟨x, hx1, hx2, hg, rfl, rfl⟩ := hrel
        by_cases hlt : x < n
        · have hxs : x < T.size := by omega
          have hxi : (x : Int) < (T.size : Int) := by omega
          have hst := N5.out x hxs hx1 hlt
          have hsp := fun u => dSpace_any T[x] u
          rw [setT] at hst
          simp only [Bool.and_eq_true, Bool.not_eq_true'] at hst
          obtain ⟨⟨q1, q2⟩, q3⟩ := hst
          rw [q1] at hsp
          have HSP := Lib.hid hsp
          clear hsp q1
          go_wp2_with (go_at_call 44; go_must (refine (HSP.out _).mono ?_; rintro e wx ⟨rfl, rfl⟩))
          go_roundg (n - (x + 1))
          case measure => omega
          case rel => exact ⟨x + 1, by omega, by omega, Nat.le_refl _, by go_num, rfl⟩
        · obtain rfl : x = n := by omega
          by_cases hxs : x < T.size
          · have hxi : (x : Int) < (T.size : Int) := by omega
            have hst := N6.out hxs
            have hsp := fun u => dSpace_any T[x] u
            rw [setT] at hst
            cases q1 : spaceB T[x]
            · rw [q1] at hst hsp
              have HSP := Lib.hid hsp
              cases q2 : ((T[x].toNat : Int) != 47)
              · clear hsp hst
                go_wp2_with (go_at_call 44; go_must (refine (HSP.out _).mono ?_; rintro e wx ⟨rfl, rfl⟩))
                go_meet
                exact ⟨rfl, rfl⟩
              · skip
                cases q3 : ((T[x].toNat : Int) != 62)
                · clear hsp hst
                  go_wp2_with (go_at_call 44; go_must (refine (HSP.out _).mono ?_; rintro e wx ⟨rfl, rfl⟩))
                  go_meet
                  exact ⟨rfl, rfl⟩
                · rw [q2, q3] at hst
                  cases hst
            · rw [q1] at hsp
              have HSP := Lib.hid hsp
              clear hsp hst
              go_wp2_with (go_at_call 44; go_must (refine (HSP.out _).mono ?_; rintro e wx ⟨rfl, rfl⟩))
              go_meet
              exact ⟨rfl, rfl⟩
          · have hxi : ¬ (x : Int) < (T.size : Int) := by omega
            go_wp2_with fail
            go_meet
            exact ⟨rfl, rfl⟩
  case rest =>
    obtain ⟨rfl, rfl⟩ := hcut
    clear N5 N6
    go_wp2_with fail
    refine (HLO.out _).mono ?_
    rintro r w1 ⟨rfl, hb⟩
    have HB1 := Lib.hid (belowCall HB0.out hb)
    have HZ1 := Lib.hid (zero_below HR0.out hb hz0)
    have hz1' := hb.size
    dsimp only
    clear hb HLO HB0 HR0 hext
    have HD0 : Hid (DW w w.heap.size w1.heap.size nm (.slice none 0 0) [] (w1.alloc (.cells #[.int .i64 0, .string (strB nm), .slice none 0 0, .bool false] 92))) :=
      ⟨zero_below HZ1.out ((Below.refl _ _).alloc (Nat.le_refl _) _) (by omega), heap_alloc_new _ _, World.ownsRow_nil _ _ _ _, HB1.out.alloc HB1.out.size _, by simp; omega⟩
    go_wp2_with fail
    obtain ⟨O, hO⟩ : ∃ O, O = w1.heap.size := ⟨_, rfl⟩
    rw [← hO] at HD0
    simp only [← hO]
    clear hO HZ1 HB1
    generalize w1.alloc (.cells #[.int .i64 0, .string (strB nm), .slice none 0 0, .bool false] 92) = w2 at *
    go_loopg [1] (T.size - n) (fun g v wr => ∃ (j : Nat) (al : List (Str × Str)) (sl : Value), j ≤ T.size ∧ T.size - j ≤ g ∧ al.length ≤ j ∧ v = .int .i64 j ∧ DW w w.heap.size O nm sl al wr ∧ tagsF al (T.toList.drop j) = X)
    case atStart => exact ⟨n, [], _, n2, Nat.le_refl _, Nat.zero_le _, rfl, HD0.out, HX.out.symm⟩
    case round =>
      obtain ⟨j, al, sl, hj, hgj, hal, rfl, hd, hX⟩ := hrel
      have HD := Lib.hid hd
      have HT := Lib.hid hX
      clear hd hX HD0 HX
      by_cases hjs : j < T.size
      · have hji : (j : Int) < (T.size : Int) := by omega
        obtain ⟨p, p1, p2, p3, p4, p5, p6⟩ := scan gapB T j hj
        have P3 := Lib.hid p3
        have P4 := Lib.hid p4
        have P5 := Lib.hid p5
        have P6 := Lib.hid p6
        clear p3 p4 p5 p6
        go_upto_block 4 with fail
        go_cut [1, 7] (fun v sv wx => v = .int .i64 p ∧ sv = .bool (slashF ((T.toList.drop j).take (p - j))) ∧ wr = wx)
        case first =>
          as_aux_lemma =>
            go_wp2_with fail
            go_loopg [1, 7] (p - j) (fun g v sv wi => ∃ x : Nat, j ≤ x ∧ x ≤ p ∧ p - x ≤ g ∧ v = .int .i64 x ∧ sv = .bool (slashF ((T.toList.drop j).take (x - j))) ∧ wr = wi)
            case atStart => exact ⟨j, Nat.le_refl _, by omega, Nat.le_refl _, rfl, by rw [Nat.sub_self]; rfl, rfl⟩
            case round =>
              obtain ⟨x, hx1, hx2, hg, rfl, rfl, rfl⟩ := hrel
              by_cases hlt : x < p
              · have hxs : x < T.size := by omega
                have hxi : (x : Int) < (T.size : Int) := by omega
                have hst := P5.out x hxs hx1 hlt
                have hsp := fun u => dSpace_any T[x] u
                rw [setGap] at hst
                have HSL : Hid (slashF ((T.toList.drop j).take (x + 1 - j)) = ((T[x].toNat : Int) == 47)) := by
                  show _ = _
                  have hlen : x - j < (T.toList.drop j).length := by rw [List.length_drop, size_toList]; omega
                  rw [show x + 1 - j = (x - j) + 1 from by omega, slash_step _ _ hlen, List.getElem_drop]
                  simp only [show j + (x - j) = x from by omega]
                  rw [byte_at T x hxs]
                cases h47 : ((T[x].toNat : Int) == 47)
                · rw [h47, Bool.or_false] at hst
                  rw [h47] at HSL
                  rw [hst] at hsp
                  have HSP := Lib.hid hsp
                  clear hsp hst
                  go_wp2_with (go_at_call 44; go_must (refine (HSP.out _).mono ?_; rintro e wx ⟨rfl, rfl⟩))
                  go_roundg (p - (x + 1))
                  case measure => omega
                  case rel => exact ⟨x + 1, by omega, by omega, Nat.le_refl _, by go_num, by rw [HSL.out], rfl⟩
                · rw [h47] at HSL
                  cases hs1 : spaceB T[x]
                  all_goals
                    rw [hs1] at hsp
                    have HSP := Lib.hid hsp
                    clear hsp hst hs1
                    go_wp2_with (go_at_call 44; go_must (refine (HSP.out _).mono ?_; rintro e wx ⟨rfl, rfl⟩))
                    go_roundg (p - (x + 1))
                    case measure => omega
                    case rel => exact ⟨x + 1, by omega, by omega, Nat.le_refl _, by go_num, by rw [HSL.out], rfl⟩
              · obtain rfl : x = p := by omega
                by_cases hxs : x < T.size
                · have hxi : (x : Int) < (T.size : Int) := by omega
                  have hst := P6.out hxs
                  have hsp := fun u => dSpace_any T[x] u
                  rw [setGap] at hst
                  have q1 : spaceB T[x] = false := by cases h : spaceB T[x] <;> rw [h] at hst <;> first | rfl | cases hst
                  have q2 : ((T[x].toNat : Int) == 47) = false := by cases h : ((T[x].toNat : Int) == 47) <;> rw [h] at hst <;> first | rfl | (rw [Bool.or_true] at hst; cases hst)
                  rw [q1] at hsp
                  have HSP := Lib.hid hsp
                  clear hsp hst
                  go_wp2_with (go_at_call 44; go_must (refine (HSP.out _).mono ?_; rintro e wx ⟨rfl, rfl⟩))
                  go_meet
                  exact ⟨rfl, rfl, rfl⟩
                · have hxi : ¬ (x : Int) < (T.size : Int) := by omega
                  go_wp2_with fail
                  go_meet
                  exact ⟨rfl, rfl, rfl⟩
        case rest =>
          obtain ⟨rfl, rfl, rfl⟩ := hcut
          clear P5 P6
          obtain ⟨slash, hsl⟩ : ∃ slash, slash = slashF ((T.toList.drop j).take (p - j)) := ⟨_, rfl⟩
          rw [← hsl]
          have HSLA := Lib.hid hsl
          clear hsl
          obtain ⟨cb, hcb⟩ : ∃ cb : Bool, (cb = true → ∃ h : p < T.size, T[p] = 62) ∧ (cb = false → ∀ h : p < T.size, T[p] ≠ 62) := by
            by_cases h : ∃ h : p < T.size, T[p] = 62
            · exact ⟨true, fun _ => h, fun e => (by cases e)⟩
            · exact ⟨false, fun e => (by cases e), fun _ hp e => h ⟨hp, e⟩⟩
          have HCB := Lib.hid hcb
          clear hcb
          go_upto_region 10 with fail
          go_cut [78] (fun t wx => t = .bool cb ∧ wr = wx)
          case first =>
            as_aux_lemma =>
              by_cases hps : p < T.size
              · have hpi : (p : Int) < (T.size : Int) := by omega
                cases cb
                · have h62 : ((T[p].toNat : Int) == 62) = false := by
                    have := HCB.out.2 rfl hps
                    rw [show ((62 : Int)) = (((62 : UInt8).toNat : Nat) : Int) from rfl, ← ueq]
                    simpa using this
                  go_wp2_with fail
                  go_meet
                  exact ⟨rfl, rfl⟩
                · have h62 : ((T[p].toNat : Int) == 62) = true := by
                    obtain ⟨_, h⟩ := HCB.out.1 rfl
                    rw [h]; decide
                  go_wp2_with fail
                  go_meet
                  exact ⟨rfl, rfl⟩
              · have hpi : ¬ (p : Int) < (T.size : Int) := by omega
                have hcf : cb = false := by
                  cases h : cb
                  · rfl
                  · exact absurd (HCB.out.1 h).1 hps
                subst hcf
                go_wp2_with fail
                go_meet
                exact ⟨rfl, rfl⟩
          case rest =>
            obtain ⟨rfl, rfl⟩ := hcut
            cases cb
            · have HN62 := Lib.hid (HCB.out.2 rfl)
              have HTG : Hid (X = match attrG (T.toList.drop p) with
                  | none => none
                  | some (a, r2) => tagsF (if hasA al a.1 then al else al ++ [a]) r2) := by
                show _ = _
                rw [← HT.out, tagsG al _ (fun r1 h => no_byte HN62.out r1 (P4.out.symm.trans h)), P4.out]
                cases attrG (T.toList.drop p) with
                | none => rfl
                | some q => rfl
              clear HCB HN62 P3 P4 HSLA HT
              obtain ⟨e, e1, e2, e3, e4, e5, e6, e7⟩ := name_scan T p p2
              have E3 := Lib.hid e3
              have E4 := Lib.hid e4
              have HLT := Lib.hid e5
              have E6 := Lib.hid e6
              have E7 := Lib.hid e7
              clear e3 e4 e5 e6 e7
              go_upto_block 6 with fail
              go_cut [1] (fun v wx => v = .int .i64 e ∧ wr = wx)
              case first =>
                as_aux_lemma =>
                  go_wp2_with fail
                  go_loopg [1] (e - p) (fun g v wi => ∃ x : Nat, p ≤ x ∧ x ≤ e ∧ e - x ≤ g ∧ v = .int .i64 x ∧ wr = wi)
                  case atStart => exact ⟨p, Nat.le_refl _, by omega, Nat.le_refl _, rfl, rfl⟩
                  case round =>
                    obtain ⟨x, hx1, hx2, hg, rfl, rfl⟩ := hrel
                    by_cases hlt : x < e
                    · have hxs : x < T.size := by omega
                      have hxi : (x : Int) < (T.size : Int) := by omega
                      by_cases hxa : x = p
                      · subst hxa
                        have hsp := fun u => dSpace_any T[x] u
                        have HSP := Lib.hid hsp
                        clear hsp
                        go_wp2_with (go_at_call 44; go_must (refine (HSP.out _).mono ?_; rintro e wx ⟨rfl, rfl⟩))
                        go_roundg (e - (x + 1))
                        case measure => omega
                        case rel => exact ⟨x + 1, by omega, by omega, Nat.le_refl _, by go_num, rfl⟩
                      have hxe : ((x : Int) == (p : Int)) = false := by rw [beq_eq_false_iff_ne]; omega
                      have hst := E6.out x hxs (by omega) hlt
                      have hsp := fun u => dSpace_any T[x] u
                      rw [setA] at hst
                      simp only [Bool.and_eq_true, Bool.not_eq_true'] at hst
                      obtain ⟨⟨⟨q1, q2⟩, q3⟩, q4⟩ := hst
                      rw [q1] at hsp
                      have HSP := Lib.hid hsp
                      clear hsp q1
                      go_wp2_with (go_at_call 44; go_must (refine (HSP.out _).mono ?_; rintro e wx ⟨rfl, rfl⟩))
                      go_roundg (e - (x + 1))
                      case measure => omega
                      case rel => exact ⟨x + 1, by omega, by omega, Nat.le_refl _, by go_num, rfl⟩
                    · obtain rfl : x = e := by omega
                      by_cases hxs : x < T.size
                      · have hxi : (x : Int) < (T.size : Int) := by omega
                        have hxe : ((x : Int) == (p : Int)) = false := by rw [beq_eq_false_iff_ne]; have := HLT.out; omega
                        have hst := E7.out hxs
                        have hsp := fun u => dSpace_any T[x] u
                        rw [setA] at hst
                        cases q1 : spaceB T[x]
                        · rw [q1] at hst hsp
                          have HSP := Lib.hid hsp
                          cases q2 : ((T[x].toNat : Int) != 47)
                          · clear hsp hst
                            go_wp2_with (go_at_call 44; go_must (refine (HSP.out _).mono ?_; rintro e wx ⟨rfl, rfl⟩))
                            go_meet
                            exact ⟨rfl, rfl⟩
                          · skip
                            cases q3 : ((T[x].toNat : Int) != 62)
                            · clear hsp hst
                              go_wp2_with (go_at_call 44; go_must (refine (HSP.out _).mono ?_; rintro e wx ⟨rfl, rfl⟩))
                              go_meet
                              exact ⟨rfl, rfl⟩
                            · skip
                              cases q4 : ((T[x].toNat : Int) != 61)
                              · clear hsp hst
                                go_wp2_with (go_at_call 44; go_must (refine (HSP.out _).mono ?_; rintro e wx ⟨rfl, rfl⟩))
                                go_meet
                                exact ⟨rfl, rfl⟩
                              · rw [q2, q3, q4] at hst
                                cases hst
                        · rw [q1] at hsp
                          have HSP := Lib.hid hsp
                          clear hsp hst
                          go_wp2_with (go_at_call 44; go_must (refine (HSP.out _).mono ?_; rintro e wx ⟨rfl, rfl⟩))
                          go_meet
                          exact ⟨rfl, rfl⟩
                      · have hxi : ¬ (x : Int) < (T.size : Int) := by omega
                        go_wp2_with fail
                        go_meet
                        exact ⟨rfl, rfl⟩
              case rest =>
                obtain ⟨rfl, rfl⟩ := hcut
                clear E6 E7
                have hje : j < e := by
                  have := HLT.out
                  by_cases h : p < T.size
                  · have := this h; omega
                  · omega
                obtain ⟨an, han⟩ : ∃ an, an = lowS (nameG (T.toList.drop p)) := ⟨_, rfl⟩
                have HAN := Lib.hid han
                have hla : ∀ u, Calls Tryz.prog 60 #[.string (strB ((T.toList.drop p).take (e - p)))] u fun r w' => r = .returned (.string (strB an)) ∧ Below u.heap.size u w' := fun u => by
                  have h := Lower_any (strB ((T.toList.drop p).take (e - p))) u (by rw [strB_size, List.length_take]; unfold maxLen; omega)
                  rw [toList_strB, ← E3.out, ← HAN.out] at h
                  rw [← E3.out]
                  exact h
                have HLA := Lib.hid hla
                have hexte := ext_upto T p e e1
                have e1i : (p : Int) ≤ (e : Int) := by omega
                have e2i : (e : Int) ≤ (T.size : Int) := by omega
                clear hla han
                go_wp2_with fail
                refine (HLA.out _).mono ?_
                rintro r w4 ⟨rfl, hb⟩
                have HA5 := Lib.hid (AW.start (HD.out.calm hb) an [])
                dsimp only
                clear hb hexte HLA
                obtain ⟨q3, s1, s2, s3, s4, s5, s6⟩ := scan spaceB T e e2
                have S4 := Lib.hid s4
                have S5 := Lib.hid s5
                have S6 := Lib.hid s6
                have HSP0 := Lib.hid (show (restG (T.toList.drop p)).dropWhile spaceB = T.toList.drop q3 from by rw [E4.out, S4.out])
                clear s3 s4 s5 s6 E3 E4
                go_upto_block 8 with fail
                obtain ⟨A, hA⟩ : ∃ A, A = w4.heap.size := ⟨_, rfl⟩
                rw [← hA] at HA5
                change Hid (AW w w.heap.size O A nm sl al an [] (w4.alloc (.cells #[.string (strB an), .string ⟨#[]⟩] 56))) at HA5
                simp only [← hA]
                clear hA
                generalize w4.alloc (.cells #[.string (strB an), .string ⟨#[]⟩] 56) = w5 at *
                go_cut [1] (fun v wx => v = .int .i64 q3 ∧ w5 = wx)
                case first =>
                  as_aux_lemma =>
                    go_wp2_with fail
                    go_loopg [1] (q3 - e) (fun g v wi => ∃ x : Nat, e ≤ x ∧ x ≤ q3 ∧ q3 - x ≤ g ∧ v = .int .i64 x ∧ w5 = wi)
                    case atStart => exact ⟨e, Nat.le_refl _, by omega, Nat.le_refl _, rfl, rfl⟩
                    case round =>
                      obtain ⟨x, hx1, hx2, hg, rfl, rfl⟩ := hrel
                      by_cases hlt : x < q3
                      · have hxs : x < T.size := by omega
                        have hxi : (x : Int) < (T.size : Int) := by omega
                        have hst := S5.out x hxs hx1 hlt
                        have hsp := fun u => dSpace_any T[x] u
                        rw [hst] at hsp
                        have HSP := Lib.hid hsp
                        clear hsp hst
                        go_wp2_with (go_at_call 44; go_must (refine (HSP.out _).mono ?_; rintro e wx ⟨rfl, rfl⟩))
                        go_roundg (q3 - (x + 1))
                        case measure => omega
                        case rel => exact ⟨x + 1, by omega, by omega, Nat.le_refl _, by go_num, rfl⟩
                      · obtain rfl : x = q3 := by omega
                        by_cases hxs : x < T.size
                        · have hxi : (x : Int) < (T.size : Int) := by omega
                          have hst := S6.out hxs
                          have hsp := fun u => dSpace_any T[x] u
                          rw [hst] at hsp
                          have HSP := Lib.hid hsp
                          clear hsp hst
                          go_wp2_with (go_at_call 44; go_must (refine (HSP.out _).mono ?_; rintro e wx ⟨rfl, rfl⟩))
                          go_meet
                          exact ⟨rfl, rfl⟩
                        · have hxi : ¬ (x : Int) < (T.size : Int) := by omega
                          go_wp2_with fail
                          go_meet
                          exact ⟨rfl, rfl⟩
                case rest =>
                  obtain ⟨rfl, rfl⟩ := hcut
                  clear S4 S5 S6
                  obtain ⟨eb, heb⟩ : ∃ eb : Bool, (eb = true → ∃ h : q3 < T.size, T[q3] = 61) ∧ (eb = false → ∀ h : q3 < T.size, T[q3] ≠ 61) := by
                    by_cases h : ∃ h : q3 < T.size, T[q3] = 61
                    · exact ⟨true, fun _ => h, fun e => (by cases e)⟩
                    · exact ⟨false, fun e => (by cases e), fun _ hp e => h ⟨hp, e⟩⟩
                  have HEB := Lib.hid heb
                  clear heb
                  go_upto_region 20 with fail
                  go_cut [149] (fun t wx => t = .bool eb ∧ w5 = wx)
                  case first =>
                    as_aux_lemma =>
                      by_cases hps : q3 < T.size
                      · have hpi : (q3 : Int) < (T.size : Int) := by omega
                        cases eb
                        · have h61 : ((T[q3].toNat : Int) == 61) = false := by
                            have := HEB.out.2 rfl hps
                            rw [show ((61 : Int)) = (((61 : UInt8).toNat : Nat) : Int) from rfl, ← ueq]
                            simpa using this
                          go_wp2_with fail
                          go_meet
                          exact ⟨rfl, rfl⟩
                        · have h61 : ((T[q3].toNat : Int) == 61) = true := by
                            obtain ⟨_, h⟩ := HEB.out.1 rfl
                            rw [h]; decide
                          go_wp2_with fail
                          go_meet
                          exact ⟨rfl, rfl⟩
                      · have hpi : ¬ (q3 : Int) < (T.size : Int) := by omega
                        have hcf : eb = false := by
                          cases h : eb
                          · rfl
                          · exact absurd (HEB.out.1 h).1 hps
                        subst hcf
                        go_wp2_with fail
                        go_meet
                        exact ⟨rfl, rfl⟩
                  case rest =>
                    obtain ⟨rfl, rfl⟩ := hcut
                    go_upto_if 149 with fail
                    go_cut [1, 5] (fun v v5 wx => ∃ (q : Nat) (av : Str), v = .int .i64 q ∧ j < q ∧ q ≤ T.size ∧ attrG (T.toList.drop p) = some ((an, av), T.toList.drop q) ∧ AW w w.heap.size O A nm sl al an av wx)
                    case first =>
                      as_aux_lemma =>
                        cases eb
                        · have HN61 := Lib.hid (HEB.out.2 rfl)
                          clear HEB
                          go_wp2_with fail
                          go_meet
                          exact ⟨q3, [], rfl, by omega, s2, by rw [HAN.out]; exact attrG_bare HSP0.out HN61.out, HA5.out⟩
                        · obtain ⟨h3s, h61⟩ := HEB.out.1 rfl
                          have HAV := Lib.hid (attrG_val HSP0.out h3s h61)
                          obtain ⟨k3, hk3⟩ : ∃ k3, k3 = q3 + 1 := ⟨_, rfl⟩
                          rw [← hk3] at HAV
                          have hk3i : (q3 : Int) + 1 = (k3 : Int) := by omega
                          have hk3s : k3 ≤ T.size := by omega
                          have HK3 := Lib.hid hk3
                          obtain ⟨q4, r1, r2, r3, r4, r5, r6⟩ := scan spaceB T k3 hk3s
                          have R4 := Lib.hid r4
                          have R5 := Lib.hid r5
                          have R6 := Lib.hid r6
                          clear r3 r4 r5 r6 hk3 h61 HEB
                          go_upto_block 10 with fail
                          clear hk3i
                          go_cut [1] (fun v wx => v = .int .i64 q4 ∧ w5 = wx)
                          case first =>
                              go_wp2_with fail
                              go_loopg [1] (q4 - k3) (fun g v wi => ∃ x : Nat, k3 ≤ x ∧ x ≤ q4 ∧ q4 - x ≤ g ∧ v = .int .i64 x ∧ w5 = wi)
                              case atStart => exact ⟨k3, Nat.le_refl _, by omega, Nat.le_refl _, rfl, rfl⟩
                              case round =>
                                obtain ⟨x, hx1, hx2, hg, rfl, rfl⟩ := hrel
                                by_cases hlt : x < q4
                                · have hxs : x < T.size := by omega
                                  have hxi : (x : Int) < (T.size : Int) := by omega
                                  have hst := R5.out x hxs hx1 hlt
                                  have hsp := fun u => dSpace_any T[x] u
                                  rw [hst] at hsp
                                  have HSP := Lib.hid hsp
                                  clear hsp hst
                                  go_wp2_with (go_at_call 44; go_must (refine (HSP.out _).mono ?_; rintro e wx ⟨rfl, rfl⟩))
                                  go_roundg (q4 - (x + 1))
                                  case measure => omega
                                  case rel => exact ⟨x + 1, by omega, by omega, Nat.le_refl _, by go_num, rfl⟩
                                · obtain rfl : x = q4 := by omega
                                  by_cases hxs : x < T.size
                                  · have hxi : (x : Int) < (T.size : Int) := by omega
                                    have hst := R6.out hxs
                                    have hsp := fun u => dSpace_any T[x] u
                                    rw [hst] at hsp
                                    have HSP := Lib.hid hsp
                                    clear hsp hst
                                    go_wp2_with (go_at_call 44; go_must (refine (HSP.out _).mono ?_; rintro e wx ⟨rfl, rfl⟩))
                                    go_meet
                                    exact ⟨rfl, rfl⟩
                                  · have hxi : ¬ (x : Int) < (T.size : Int) := by omega
                                    go_wp2_with fail
                                    go_meet
                                    exact ⟨rfl, rfl⟩
                          case rest =>
                            obtain ⟨rfl, rfl⟩ := hcut
                            clear R5 R6
                            have hjk : j < q4 := by have := HK3.out; omega
                            obtain ⟨qb, hqb⟩ : ∃ qb : Bool, (qb = true → ∃ h : q4 < T.size, T[q4] = 34 ∨ T[q4] = 39) ∧ (qb = false → ∀ h : q4 < T.size, T[q4] ≠ 34 ∧ T[q4] ≠ 39) := by
                              by_cases h : ∃ h : q4 < T.size, T[q4] = 34 ∨ T[q4] = 39
                              · exact ⟨true, fun _ => h, fun e => (by cases e)⟩
                              · exact ⟨false, fun e => (by cases e), fun _ hp => ⟨fun e => h ⟨hp, .inl e⟩, fun e => h ⟨hp, .inr e⟩⟩⟩
                            have HQB := Lib.hid hqb
                            clear hqb
                            go_upto_region 25 with fail
                            go_cut [180] (fun t wx => t = .bool qb ∧ w5 = wx)
                            case first =>
                              by_cases hps : q4 < T.size
                              · have hpi : (q4 : Int) < (T.size : Int) := by omega
                                cases qb
                                · obtain ⟨n34, n39⟩ := HQB.out.2 rfl hps
                                  have h34 : ((T[q4].toNat : Int) == 34) = false := by
                                    rw [show ((34 : Int)) = (((34 : UInt8).toNat : Nat) : Int) from rfl, ← ueq]
                                    simpa using n34
                                  have h39 : ((T[q4].toNat : Int) == 39) = false := by
                                    rw [show ((39 : Int)) = (((39 : UInt8).toNat : Nat) : Int) from rfl, ← ueq]
                                    simpa using n39
                                  clear n34 n39
                                  go_wp2_with fail
                                  go_meet
                                  exact ⟨rfl, rfl⟩
                                · obtain ⟨_, h⟩ := HQB.out.1 rfl
                                  rcases h with h | h
                                  · have h34 : ((T[q4].toNat : Int) == 34) = true := by rw [h]; decide
                                    clear h
                                    go_wp2_with fail
                                    go_meet
                                    exact ⟨rfl, rfl⟩
                                  · have h34 : ((T[q4].toNat : Int) == 34) = false := by rw [h]; decide
                                    have h39 : ((T[q4].toNat : Int) == 39) = true := by rw [h]; decide
                                    clear h
                                    go_wp2_with fail
                                    go_meet
                                    exact ⟨rfl, rfl⟩
                              · have hpi : ¬ (q4 : Int) < (T.size : Int) := by omega
                                have hcf : qb = false := by
                                  cases h : qb
                                  · rfl
                                  · exact absurd (HQB.out.1 h).1 hps
                                subst hcf
                                go_wp2_with fail
                                go_meet
                                exact ⟨rfl, rfl⟩
                            case rest =>
                              obtain ⟨rfl, rfl⟩ := hcut
                              cases qb
                              · -- no quote
                                have HVO := Lib.hid (valG_open R4.out (HQB.out.2 rfl))
                                clear HQB
                                obtain ⟨q5, t1, t2, t3, t4, t5, t6⟩ := scan (fun c => !signV.contains c) T q4 r2
                                have T3 := Lib.hid t3
                                have T4 := Lib.hid t4
                                have T5 := Lib.hid t5
                                have T6 := Lib.hid t6
                                clear t3 t4 t5 t6
                                go_upto_block 12 with fail
                                go_cut [1] (fun v wx => v = .int .i64 q5 ∧ w5 = wx)
                                case first =>
                                    go_wp2_with fail
                                    go_loopg [1] (q5 - q4) (fun g v wi => ∃ x : Nat, q4 ≤ x ∧ x ≤ q5 ∧ q5 - x ≤ g ∧ v = .int .i64 x ∧ w5 = wi)
                                    case atStart => exact ⟨q4, Nat.le_refl _, by omega, Nat.le_refl _, rfl, rfl⟩
                                    case round =>
                                      obtain ⟨x, hx1, hx2, hg, rfl, rfl⟩ := hrel
                                      by_cases hlt : x < q5
                                      · have hxs : x < T.size := by omega
                                        have hxi : (x : Int) < (T.size : Int) := by omega
                                        have hst := T5.out x hxs hx1 hlt
                                        have hsp := fun u => dSpace_any T[x] u
                                        rw [setV] at hst
                                        simp only [Bool.and_eq_true, Bool.not_eq_true'] at hst
                                        obtain ⟨q1, q2⟩ := hst
                                        rw [q1] at hsp
                                        have HSP := Lib.hid hsp
                                        clear hsp q1
                                        go_wp2_with (go_at_call 44; go_must (refine (HSP.out _).mono ?_; rintro e wx ⟨rfl, rfl⟩))
                                        go_roundg (q5 - (x + 1))
                                        case measure => omega
                                        case rel => exact ⟨x + 1, by omega, by omega, Nat.le_refl _, by go_num, rfl⟩
                                      · obtain rfl : x = q5 := by omega
                                        by_cases hxs : x < T.size
                                        · have hxi : (x : Int) < (T.size : Int) := by omega
                                          have hst := T6.out hxs
                                          have hsp := fun u => dSpace_any T[x] u
                                          rw [setV] at hst
                                          cases q1 : spaceB T[x]
                                          · rw [q1] at hst hsp
                                            have HSP := Lib.hid hsp
                                            cases q2 : ((T[x].toNat : Int) != 62)
                                            · clear hsp hst
                                              go_wp2_with (go_at_call 44; go_must (refine (HSP.out _).mono ?_; rintro e wx ⟨rfl, rfl⟩))
                                              go_meet
                                              exact ⟨rfl, rfl⟩
                                            · rw [q2] at hst
                                              cases hst
                                          · rw [q1] at hsp
                                            have HSP := Lib.hid hsp
                                            clear hsp hst
                                            go_wp2_with (go_at_call 44; go_must (refine (HSP.out _).mono ?_; rintro e wx ⟨rfl, rfl⟩))
                                            go_meet
                                            exact ⟨rfl, rfl⟩
                                        · have hxi : ¬ (x : Int) < (T.size : Int) := by omega
                                          go_wp2_with fail
                                          go_meet
                                          exact ⟨rfl, rfl⟩
                                case rest =>
                                  obtain ⟨rfl, rfl⟩ := hcut
                                  clear T5 T6
                                  obtain ⟨vv, hvv⟩ : ∃ vv, vv = (T.toList.drop q4).take (q5 - q4) := ⟨_, rfl⟩
                                  have HVV := Lib.hid hvv
                                  have hall := fun u => All12_any (strB vv) true u (by rw [strB_size, hvv, List.length_take, List.length_drop, size_toList]; omega)
                                  rw [toList_strB] at hall
                                  have HALL := Lib.hid hall
                                  have hextv := ext_upto T q4 q5 (by omega)
                                  rw [← hvv] at hextv
                                  have HA6 := Lib.hid (HA5.out.put vv)
                                  have hA6 := AttrCells HA6.out.attr
                                  have hA5 := AttrCells HA5.out.attr
                                  obtain ⟨a0, a1, f0, f1⟩ := hA5
                                  have v1i : (q4 : Int) ≤ (q5 : Int) := by omega
                                  have v2i : (q5 : Int) ≤ (T.size : Int) := by omega
                                  clear hvv hall hA6
                                  go_wp2_with fail
                                  refine (HALL.out _).mono ?_
                                  rintro r w7 ⟨rfl, hb⟩
                                  have HA7 := Lib.hid (HA6.out.calm hb)
                                  obtain ⟨b0, b1, g0, g1⟩ := AttrCells HA7.out.attr
                                  dsimp only
                                  clear hb a0 a1 f0 f1
                                  go_wp2_with fail
                                  go_meet

                                  exact ⟨q5, allS vv true, rfl, by omega, t2, by rw [HAV.out, HVO.out, T3.out, T4.out, ← HVV.out, ← HAN.out]; rfl, HA7.out.put (allS vv true)⟩
                              · -- a quote
                                obtain ⟨h4s, h34⟩ := HQB.out.1 rfl
                                have HVQ := Lib.hid (valG_quote R4.out h4s h34)
                                have hq1 : T.extract q4 (q4 + 1) = strB [T[q4]] := by
                                  rw [ext_upto T q4 (q4 + 1) (by omega), list_at T q4 h4s, show q4 + 1 - q4 = 0 + 1 from by omega, List.take_succ_cons]
                                  rfl
                                obtain ⟨nq, hnq⟩ : ∃ nq, nq = firstN [T[q4]] (T.toList.drop (q4 + 1)) := ⟨_, rfl⟩
                                have hnl := firstN_le [T[q4]] (T.toList.drop (q4 + 1))
                                rw [← hnq, List.length_drop, size_toList] at hnl
                                have hfst := fun u => first_any T (q4 + 1) (strB [T[q4]]) u (by omega) (by rw [strB_size, List.length_singleton]; omega) h4s
                                rw [toList_strB, ← hnq] at hfst
                                rw [← hnq] at HVQ
                                obtain ⟨q5, hq5⟩ : ∃ q5, q5 = q4 + 1 + nq := ⟨_, rfl⟩
                                rw [← hq5] at hfst HVQ
                                have HQ5 := Lib.hid hq5
                                have HFST : Hid (∀ u, Calls Tryz.prog 33 #[.string T, .int .i64 ((q4 : Int) + 1), .string (strB [T[q4]])] u fun e w' => e = .returned (.int .i64 q5) ∧ u = w') := hfst
                                have q4i : (q4 : Int) + 1 ≤ (T.size : Int) := by omega
                                have q4j : (q4 : Int) ≤ (q4 : Int) + 1 := by omega
                                clear hfst HQB h34 hnq hq5
                                go_wp2_with fail
                                refine (HFST.out _).mono ?_
                                rintro r w7 ⟨rfl, rfl⟩
                                dsimp only
                                clear hq1 HFST
                                by_cases hend : q5 = T.size
                                · have hendi : ((q5 : Int) == (T.size : Int)) = true := by rw [beq_iff_eq]; omega
                                  have HXN : Hid (o = none) := by
                                    show _ = _
                                    rw [HO.out, HTG.out, HAV.out, HVQ.out, if_pos hend]
                                    rfl
                                  obtain ⟨⟨z0, z1, z2, z3⟩, y0, y1, y2, y3⟩ := tag_cells HA5.out.dw.zero
                                  clear hend
                                  go_wp2_with fail
                                  refine bodyPost_ret (results_one rfl _ _ w.heap.size _ _ _ _ rfl (put4_at HA5.out.dw.zero _ _ _ _) Tryz.underlying92 rfl tag_info) rfl ?_
                                  refine ⟨?_, put4_below HA5.out.dw.below (Nat.le_refl _) _ _ _ _⟩
                                  rw [HXN.out]
                                  rfl
                                · have hendi : ((q5 : Int) == (T.size : Int)) = false := by rw [beq_eq_false_iff_ne]; omega
                                  rw [if_neg hend] at HVQ
                                  have h5s : q5 < T.size := by have := HQ5.out; omega
                                  have h5l : q4 + 1 ≤ q5 := by have := HQ5.out; omega
                                  clear hend
                                  obtain ⟨vv, hvv⟩ : ∃ vv, vv = (T.toList.drop (q4 + 1)).take (q5 - (q4 + 1)) := ⟨_, rfl⟩
                                  have HVV := Lib.hid hvv
                                  have hall := fun u => All12_any (strB vv) true u (by rw [strB_size, hvv, List.length_take, List.length_drop, size_toList]; omega)
                                  rw [toList_strB] at hall
                                  have HALL := Lib.hid hall
                                  have hextv := ext_upto T (q4 + 1) q5 (by omega)
                                  rw [← hvv] at hextv
                                  have HA6 := Lib.hid (HA5.out.put vv)
                                  have hA6 := AttrCells HA6.out.attr
                                  have hA5 := AttrCells HA5.out.attr
                                  obtain ⟨a0, a1, f0, f1⟩ := hA5
                                  have v1i : (q4 : Int) + 1 ≤ (q5 : Int) := by omega
                                  have v2i : (q5 : Int) ≤ (T.size : Int) := by omega
                                  clear hvv hall hA6
                                  go_wp2_with fail
                                  refine (HALL.out _).mono ?_
                                  rintro r w7 ⟨rfl, hb⟩
                                  have HA7 := Lib.hid (HA6.out.calm hb)
                                  obtain ⟨b0, b1, g0, g1⟩ := AttrCells HA7.out.attr
                                  dsimp only
                                  clear hb a0 a1 f0 f1
                                  go_wp2_with fail
                                  go_meet

                                  exact ⟨q5 + 1, allS vv true, by go_num, by omega, h5s, by rw [HAV.out, HVQ.out, HVV.out, HAN.out, show q5 - (q4 + 1) = nq from by have := HQ5.out; omega]; rfl, HA7.out.put (allS vv true)⟩
                    case rest =>
                      obtain ⟨q, av, rfl, hjq, hq, hat, haw⟩ := hcut
                      have HAW := Lib.hid haw
                      have HTQ : Hid (X = tagsF (if hasA al an then al else al ++ [(an, av)]) (T.toList.drop q)) := by
                        show _ = _
                        rw [HTG.out, hat]
                      clear hat haw HTG HEB HAN HSP0 HLT HA5
                      obtain ⟨ao, co, hv, -, -, hnil, hata⟩ := own_at HAW.out.dw.own
                      subst hv
                      have HATA := Lib.hid hata
                      clear hata hnil
                      rename World => Wc
                      go_wp2_with fail
                      go_loopg [9, 10] (al.length) (fun g2 bv jv wi => ∃ k : Nat, k ≤ al.length ∧ al.length - k ≤ g2 ∧ jv = .int .i64 k ∧ bv = .bool (hasA (al.take k) an) ∧ Below Wc.heap.size Wc wi)
                      case atStart => exact ⟨0, Nat.zero_le _, Nat.le_refl _, rfl, rfl, Below.refl _ _⟩
                      case round =>
                        obtain ⟨k, hk, hgk, rfl, rfl, hbi⟩ := hrel
                        have HBI := Lib.hid hbi
                        have HWi := Lib.hid (HAW.out.calm hbi)
                        obtain ⟨b0, b1, g0, g1⟩ := AttrCells HWi.out.attr
                        obtain ⟨⟨z0, z1, z2, z3⟩, y0, y1, y2, y3⟩ := tag_cells HWi.out.dw.out
                        clear hbi
                        by_cases hka : k < al.length
                        · have hkp : k < (attP al).length := by rw [attP_length]; exact hka
                          obtain ⟨ob, oo, rfl, hob, c0, c1⟩ := pair_cells (HATA.out.below HBI.out) hkp
                          rw [attP_get al k hka hkp] at c0
                          simp only at c0
                          have hst := hasA_one al an k hka
                          obtain ⟨tt, htt⟩ : ∃ tt, tt = (al[k].1 == an) := ⟨_, rfl⟩
                          have heq : ((strB al[k].1).toList == (strB an).toList) = tt := by rw [toList_strB, toList_strB, htt]
                          rw [← htt] at hst
                          have HST := Lib.hid hst
                          clear hst htt c1 b1
                          generalize hasA (al.take k) an = old at *
                          generalize al[k] = pj at *
                          cases old
                          · cases tt
                            all_goals
                              go_wp2_with fail
                              go_quiet (fail)
                              go_wp2_with fail
                              go_roundg (al.length - (k + 1))
                              case measure => omega
                              case rel => exact ⟨k + 1, by omega, Nat.le_refl _, by go_num, by rw [HST.out]; rfl, by first | exact HBI.out | exact HBI.out.drew | exact below_many HBI.out _⟩
                          · go_wp2_with fail
                            go_quiet (fail)
                            go_wp2_with fail
                            go_roundg (al.length - (k + 1))
                            case measure => omega
                            case rel => exact ⟨k + 1, by omega, Nat.le_refl _, by go_num, by rw [HST.out]; rfl, by first | exact HBI.out | exact HBI.out.drew | exact below_many HBI.out _⟩
                        · obtain rfl : k = al.length := by omega
                          rw [List.take_length]
                          cases hh : hasA al an
                          · rw [hh, if_neg (by simp)] at HTQ
                            have HN := Lib.hid (news_two (w := wr) rfl (.string (strB an)) (.string (strB av)) 56)
                            have HW4 := Lib.hid (HWi.out.dw.calm ((Below.refl wr.heap.size wr).alloc (Nat.le_refl _) (.cells #[.string (strB an), .string (strB av)] 56)))
                            have hz4 : O + 1 ≤ (wr.alloc (.cells #[.string (strB an), .string (strB av)] 56)).heap.size := by have := HW4.out.lt; omega
                            obtain ⟨i0', hi', hz0', hz1', hz2'⟩ := info_parts info_attr
                            have hb1 : al.length + 1 ≤ maxLen := by unfold maxLen; omega
                            have hb2 : (al.length + 1) * 32 ≤ 140737488355328 := by omega
                            clear hh
                            go_wp2_with (at_builtin; go_must (refine wpList_append_own _ rfl _ _ 44 rfl (O + 1) 56 i0' _ 2 32 Tryz.underlying44 hi' hz0' hz1' hz2' rfl (by decide) _ al.length _ rfl HW4.out.own _ 1 1 [.string (strB an), .string (strB av)] rfl rfl HN.out (two_one (strB an, strB av)) hb1 hb2 hz4 ?_; intro v5 w5 hown5 hgr5 _; obtain ⟨g5, cap5, hv5, -, -, -⟩ := own_some hown5 (Nat.succ_pos _); subst hv5; rw [← attP_push al (an, av)] at hown5; have hx5 : w5.cell? ⟨O, 2, none⟩ = some (.slice ao al.length co) := (by obtain ⟨⟨-, -, h, -⟩, -⟩ := tag_cells (DWstill HW4.out hgr5); exact h); have hfx5 : w5.frozen? ⟨O, 2, none⟩ = false := (by obtain ⟨-, -, -, h, -⟩ := tag_cells (DWstill HW4.out hgr5); exact h); have HW5 := Lib.hid (HW4.out.pushed (al' := al ++ [(an, av)]) hgr5 (by rw [List.length_append]; exact hown5)); clear hown5 hgr5))
                            go_roundg (T.size - q)
                            case measure => omega
                            case rel => exact ⟨q, al ++ [(an, av)], _, hq, Nat.le_refl _, by rw [List.length_append]; simp only [List.length_cons, List.length_nil]; omega, rfl, HW5.out, HTQ.out.symm⟩
                          · rw [hh, if_pos rfl] at HTQ
                            clear hh
                            go_wp2_with fail
                            go_roundg (T.size - q)
                            case measure => omega
                            case rel => exact ⟨q, al, _, hq, Nat.le_refl _, by omega, rfl, HWi.out.dw, HTQ.out.symm⟩
            · -- the end of the tag
              obtain ⟨hps, h62⟩ := HCB.out.1 rfl
              have HXC : Hid (X = some (al, slash, T.toList.drop (p + 1))) := by
                show _ = _
                rw [← HT.out, tagsF_close (r1 := T.toList.drop (p + 1)) (by rw [P4.out, list_at T p hps, h62]), P3.out, ← HSLA.out]
              have HOC : Hid (o = some (nm, al, slash, T.toList.drop (p + 1))) := by
                show _ = _
                rw [HO.out, HXC.out]
                rfl
              obtain ⟨⟨c0, c1, c2, c3⟩, f0, f1, f2, f3⟩ := tag_cells HD.out.out
              obtain ⟨⟨z0, z1, z2, z3⟩, y0, y1, y2, y3⟩ := tag_cells HD.out.zero
              obtain ⟨ao, co, hv, -⟩ := own_at HD.out.own
              subst hv
              have hl := HD.out.lt
              have hRO : w.heap.size ≠ O := by omega
              have hOR : O ≠ w.heap.size := by omega
              have hpp : T.size - (T.toList.drop (p + 1)).length = p + 1 := by rw [List.length_drop, size_toList]; omega
              have HPP := Lib.hid hpp
              clear h62 HCB P3 P4 HSLA hpp HT
              go_wp2_with fail
              refine bodyPost_ret (results_one rfl _ _ w.heap.size _ _ _ _ rfl (put4_at (res_set (res_set HD.out.zero hRO) hRO) _ _ _ _) Tryz.underlying92 rfl tag_info) rfl ?_
              refine ⟨?_, put4_below ((HD.out.below.setCell (by show w.heap.size ≤ O; omega) _).setCell (by show w.heap.size ≤ O; omega) _) (Nat.le_refl _) _ _ _ _⟩
              rw [HOC.out]
              refine ⟨.slice ao al.length co, by rw [HPP.out]; rfl, own_base (base := O + 1) (own_kept HD.out.own fun g hg => ?_) (by omega)⟩
              have hgl := (HD.out.own.lt g hg).1
              rw [put4_other (by omega), heap_setCell_other _ _ _ _ (by show g ≠ O; omega), heap_setCell_other _ _ _ _ (by show g ≠ O; omega)]
      · obtain rfl : j = T.size := by omega
        have hji : ¬ (T.size : Int) < (T.size : Int) := by omega
        have HXN : Hid (o = none) := by
          show _ = _
          rw [HO.out, ← HT.out, List.drop_of_length_le (by rw [size_toList]; omega), tagsN0]
          rfl
        obtain ⟨⟨z0, z1, z2, z3⟩, y0, y1, y2, y3⟩ := tag_cells HD.out.zero
        clear HT
        go_wp2_with fail
        refine bodyPost_ret (results_one rfl _ _ w.heap.size _ _ _ _ rfl (put4_at HD.out.zero _ _ _ _) Tryz.underlying92 rfl tag_info) rfl ?_
        refine ⟨?_, put4_below HD.out.below (Nat.le_refl _) _ _ _ _⟩
        rw [HXN.out]
        rfl
end Go.Proofs.YtbabcohidpcjjaaGreat
