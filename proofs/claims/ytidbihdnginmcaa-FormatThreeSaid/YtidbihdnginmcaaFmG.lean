import Derived.Test.YtidbihdnginmcaaFmF
/-
  Elements each in the last one: plain Lean on trees, no Go.
-/
namespace Go.Proofs.Ytidbihdnginmcaa
open Go.RowKit Mem

abbrev EN := ByteArray × List Pair
/-- node i of a chain -/
def chainN (es : List EN) : Nat → ND
  | 0 => ⟨false, 0, ⟨#[]⟩, [], ⟨#[]⟩, -1, if es.length = 0 then [] else [1]⟩
  | i + 1 => ⟨true, 0, (es.getD i (⟨#[]⟩, [])).1, (es.getD i (⟨#[]⟩, [])).2, ⟨#[]⟩, i, if i + 1 < es.length then [((i + 2 : Nat) : Int)] else []⟩
def chainT (most : Int) (es : List EN) : TreeD := ⟨(List.range (es.length + 1)).map (chainN es), most, noFar⟩
theorem chain_len (most : Int) (es : List EN) : (chainT most es).nodes.length = es.length + 1 := by simp [chainT]
theorem chain_get (most : Int) (es : List EN) (i : Nat) (h : i < es.length + 1) : (chainT most es).nodes[i]? = some (chainN es i) := by simp [chainT, h]
theorem chain_parent (most : Int) (es : List EN) (i : Nat) (h : i < es.length + 1) : parentF (chainT most es) i = (i : Int) - 1 := by
  rw [parentF, show ((i : Int)).toNat = i from rfl, chain_get most es i h]
  cases i with
  | zero => rfl
  | succ i => show ((i : Int)) = _; omega
theorem chain_kids (most : Int) (es : List EN) (i : Nat) (h : i < es.length + 1) : kidsF (chainT most es) i = if i < es.length then [((i + 1 : Nat) : Int)] else [] := by
  rw [kidsF, show ((i : Int)).toNat = i from rfl, chain_get most es i h]
  cases i with
  | zero =>
    show (if es.length = 0 then [] else [(1 : Int)]) = _
    by_cases h0 : es.length = 0
    · rw [if_pos h0, if_neg (by omega)]
    · rw [if_neg h0, if_pos (by omega)]; rfl
  | succ i => rfl
theorem chain_elem (most : Int) (es : List EN) (i : Nat) (h : i < es.length) : elemF (chainT most es) ((i + 1 : Nat) : Int) = true ∧ spaceQ (chainT most es) ((i + 1 : Nat) : Int) = 0 ∧ nameQ (chainT most es) ((i + 1 : Nat) : Int) = es[i].1 ∧ attrsQ (chainT most es) ((i + 1 : Nat) : Int) = es[i].2 := by
  have hn : (chainT most es).nodes[i + 1]? = some (chainN es (i + 1)) := chain_get most es (i + 1) (by omega)
  have hl := chain_len most es
  have hlt : i + 1 < (chainT most es).nodes.length := by omega
  have hn' : (chainT most es).nodes[i + 1] = chainN es (i + 1) := by
    rw [List.getElem?_eq_getElem hlt] at hn
    exact Option.some.inj hn
  have he : elemF (chainT most es) ((i + 1 : Nat) : Int) = true := by
    rw [elemF_of _ _ (by omega) hlt, hn']; rfl
  have hg : es.getD i (⟨#[]⟩, []) = es[i] := by simp [List.getD, List.getElem?_eq_getElem h]
  obtain ⟨h1, h2, h3⟩ := what_of hlt he
  refine ⟨he, ?_, ?_, ?_⟩
  · rw [h1, hn']; rfl
  · rw [h2, hn', chainN, hg]
  · rw [h3, hn', chainN, hg]
theorem chain_holds (most : Int) (es : List EN) (i : Nat) (h : i ≤ es.length) : holdsF (chainT most es) i = true := by
  cases i with
  | zero => rfl
  | succ i =>
    rw [holdsF, (chain_elem most es i (by omega)).1]
    simp
theorem chainN_more (es : List EN) (e : EN) (i : Nat) (h : i < es.length) : chainN (es ++ [e]) i = chainN es i := by
  cases i with
  | zero =>
    simp only [chainN, List.length_append, List.length_singleton]
    rw [if_neg (by omega), if_neg (by omega)]
  | succ i =>
    have hg : (es ++ [e]).getD i (⟨#[]⟩, []) = es.getD i (⟨#[]⟩, []) := by
      simp only [List.getD]
      rw [List.getElem?_append_left (by omega)]
    simp only [chainN, hg, List.length_append, List.length_singleton]
    rw [if_pos (by omega), if_pos (by omega)]
theorem chainN_last (es : List EN) (e : EN) : chainN (es ++ [e]) (es.length + 1) = ⟨true, 0, e.1, e.2, ⟨#[]⟩, es.length, []⟩ := by
  have hg : (es ++ [e]).getD es.length (⟨#[]⟩, []) = e := by simp [List.getD]
  simp only [chainN, hg, List.length_append, List.length_singleton]
  rw [if_neg (by omega)]
/-- the tree before the last one is put -/
theorem chain_add (most : Int) (es : List EN) (e : EN) (hm : (es.length : Int) < most) : mkF (chainT most es) (elemN 0 e.1 e.2) = (addF (chainT most es) (elemN 0 e.1 e.2), ((es.length + 1 : Nat) : Int), 0) := by
  unfold mkF
  rw [chain_len, if_pos (by show ((es.length + 1 : Nat) : Int) - 1 < most; omega)]
theorem not_reach {T : TreeD} {top : Int} (n : Nat) (h : ∀ i : Nat, i ≤ n → parentF T i < i) (ht : (n : Int) < top) : ∀ m : Int, m ≤ n → ¬ Reach T top m := by
  have key : ∀ k : Nat, k ≤ n → ∀ m : Int, m ≤ k → ¬ Reach T top m := by
    intro k
    induction k with
    | zero =>
      intro _ m hm hr
      have := (reach_low (T := T) (top := top) (n := m) (by omega)).1 hr
      omega
    | succ k ih =>
      intro hk m hm hr
      by_cases h0 : m ≤ k
      · exact ih (by omega) m h0 hr
      · obtain rfl : m = ((k + 1 : Nat) : Int) := by omega
        have hr' := (reach_up (T := T) (top := top) (n := ((k + 1 : Nat) : Int)) (by omega) (by omega)).1 hr
        have := h (k + 1) hk
        exact ih (by omega) _ (by omega) hr'
  exact fun m hm => key n (Nat.le_refl _) m hm
theorem belowF_not {T : TreeD} {n top : Int} (h : ¬ Reach T top n) : belowF T n top = false := by simp [belowF, h]

theorem tree_ext {T U : TreeD} (hm : T.most = U.most) (hf : T.far = U.far) (h : ∀ i : Nat, T.nodes[i]? = U.nodes[i]?) : T = U := by
  obtain ⟨a, b, c⟩ := T
  obtain ⟨a', b', c'⟩ := U
  simp only at hm hf h
  rw [hm, hf, List.ext_getElem? h]
theorem chain_put (most : Int) (es : List EN) (e : EN) : putE (addF (chainT most es) (elemN 0 e.1 e.2)) (es.length : Nat) 0 ((es.length + 1 : Nat) : Int) = (chainT most (es ++ [e]), 0) := by
  have hcl := chain_len most es
  have hU : (addF (chainT most es) (elemN 0 e.1 e.2)).nodes.length = es.length + 2 := by simp [addF, hcl]
  have hlast : (addF (chainT most es) (elemN 0 e.1 e.2)).nodes[es.length + 1]? = some (elemN 0 e.1 e.2) := by
    simp only [addF]
    rw [List.getElem?_append_right (by omega), hcl]
    simp
  have hpar : ∀ i : Nat, i ≤ es.length → parentF (addF (chainT most es) (elemN 0 e.1 e.2)) i = (i : Int) - 1 := fun i hi => by
    rw [addF_parent _ _ i (by omega), chain_parent most es i (by omega)]
  have hk : kidsF (addF (chainT most es) (elemN 0 e.1 e.2)) (es.length : Nat) = [] := by
    rw [addF_kids _ _ _ (by omega), chain_kids most es es.length (by omega), if_neg (by omega)]
  have hplace : placeF (addF (chainT most es) (elemN 0 e.1 e.2)) (es.length : Nat) 0 = 0 := by
    rw [placeF, if_pos rfl, hk]; rfl
  have hp1 : parentF (addF (chainT most es) (elemN 0 e.1 e.2)) ((es.length + 1 : Nat) : Int) = -1 := by
    rw [parentF, show (((es.length + 1 : Nat) : Int)).toNat = es.length + 1 from rfl, hlast]; rfl
  have hok : putOk (addF (chainT most es) (elemN 0 e.1 e.2)) (es.length : Nat) 0 ((es.length + 1 : Nat) : Int) = true := by
    rw [putOk, addF_holds _ _ _ (by omega), chain_holds most es es.length (Nat.le_refl _), hplace,
      belowF_not (not_reach es.length (fun i hi => by rw [hpar i hi]; omega) (by omega) _ (Int.le_refl _))]
    have h1 : isF (addF (chainT most es) (elemN 0 e.1 e.2)) ((es.length + 1 : Nat) : Int) = true := by
      simp only [isF, hU, Bool.and_eq_true, decide_eq_true_eq]
      omega
    rw [h1]
    have h2 : ((0 : Int) != ((es.length + 1 : Nat) : Int)) = true := by rw [bne_iff_ne]; omega
    rw [h2]
    rfl
  rw [putE, if_pos hok]
  congr 1
  have hoff : kidsOff (addF (chainT most es) (elemN 0 e.1 e.2)) ((es.length + 1 : Nat) : Int) = addF (chainT most es) (elemN 0 e.1 e.2) := by
    rw [kidsOff, hp1, if_neg (by omega)]
  have htk : takeF (addF (chainT most es) (elemN 0 e.1 e.2)) ((es.length + 1 : Nat) : Int) = addF (chainT most es) (elemN 0 e.1 e.2) := by
    rw [takeF, hoff]
    refine tree_ext rfl rfl fun i => ?_
    rw [modN_get]
    split
    · rename_i hi
      subst hi
      rw [hlast]
      rfl
    · rfl
  rw [putF, htk, hplace, show ((0 : Int)).toNat = 0 from rfl, insertF, hk]
  simp only [List.take_nil, List.drop_nil, List.nil_append]
  refine tree_ext rfl rfl fun i => ?_
  rw [modN_get, modN_get]
  rcases Nat.lt_trichotomy i es.length with h | h | h
  · rw [if_neg (by omega), if_neg (by omega), chain_get most (es ++ [e]) i (by simp; omega), chainN_more es e i h, addF]
    rw [List.getElem?_append_left (by omega), chain_get most es i (by omega)]
  · subst h
    rw [if_neg (by omega), if_pos rfl, chain_get most (es ++ [e]) es.length (by simp; omega), addF]
    rw [List.getElem?_append_left (by omega), chain_get most es es.length (by omega)]
    show some (setKids [((es.length + 1 : Nat) : Int)] (chainN es es.length)) = _
    congr 1
    cases hl : es.length with
    | zero =>
      simp only [chainN, setKids, List.length_append, List.length_singleton, hl]
      rfl
    | succ k =>
      have hg : (es ++ [e]).getD k (⟨#[]⟩, []) = es.getD k (⟨#[]⟩, []) := by
        simp only [List.getD]
        rw [List.getElem?_append_left (by omega)]
      simp only [chainN, setKids, hg, List.length_append, List.length_singleton, hl]
      rw [if_pos (by omega)]
  · by_cases h1 : es.length + 1 = i
    · subst h1
      rw [if_pos rfl, if_neg (by omega), chain_get most (es ++ [e]) _ (by simp), chainN_last, hlast]
      rfl
    · rw [if_neg h1, if_neg (by omega), List.getElem?_eq_none (by rw [hU]; omega), List.getElem?_eq_none (by rw [chain_len]; simp; omega)]
end Go.Proofs.Ytidbihdnginmcaa

/-
  A new node is put somewhere in a tree in which nothing was moved; what FormatFosters asks: plain Lean, no Go.
-/
namespace Go.Proofs.Ytidbihdnginmcaa
open Go.RowKit Mem

/-- in which nothing was moved -/
def Low (T : TreeD) : Prop := ∀ i : Nat, i < T.nodes.length → parentF T i < i
/-- a new node, put -/
def newAt (T : TreeD) (d : ND) (a p : Nat) : TreeD := insertF (addF T d) a p (T.nodes.length : Nat)
section
variable {T : TreeD} {d : ND} {a p : Nat}
theorem newAt_len : (newAt T d a p).nodes.length = T.nodes.length + 1 := by rw [newAt, insertF_len]; simp [addF]
theorem newAt_most : (newAt T d a p).most = T.most := rfl
theorem newAt_parent (i : Nat) (hi : i < T.nodes.length) : parentF (newAt T d a p) i = parentF T i := by
  rw [newAt, insertF_parent _ _ _ _ i (by simp [addF]; omega), if_neg (by omega), addF_parent _ _ i hi]
theorem newAt_parent_new : parentF (newAt T d a p) (T.nodes.length : Nat) = a := by
  rw [newAt, insertF_parent _ _ _ _ _ (by simp [addF]), if_pos rfl]
theorem newAt_kids (i : Nat) (hi : i < T.nodes.length) : kidsF (newAt T d a p) i = if i = a then (kidsF T i).take p ++ ((T.nodes.length : Nat) : Int) :: (kidsF T i).drop p else kidsF T i := by
  rw [newAt, insertF_kids _ _ _ _ i (by simp [addF]; omega), addF_kids _ _ i hi]
  by_cases h : i = a
  · rw [if_pos h, if_pos (by omega)]
  · rw [if_neg h, if_neg (by omega)]
theorem newAt_elem (i : Nat) (hi : i < T.nodes.length) : elemF (newAt T d a p) i = elemF T i := by rw [newAt, insertF_elem, addF_elem _ _ i hi]
theorem newAt_what (i : Nat) (hi : i < T.nodes.length) : spaceQ (newAt T d a p) i = spaceQ T i ∧ nameQ (newAt T d a p) i = nameQ T i := by
  have hx : ∀ {β} (f : ND → β) (_ : ∀ d l, f (setKids l d) = f d) (_ : ∀ d l, f (setParent l d) = f d), (newAt T d a p).nodes[i]?.map f = T.nodes[i]?.map f := by
    intro β f h1 h2
    rw [newAt, insertF, modN_get, modN_get]
    have h0 : (addF T d).nodes[i]? = T.nodes[i]? := by simp [addF, List.getElem?_append_left hi]
    rw [h0]
    split <;> split <;> simp [Function.comp_def, h1, h2]
  rw [spaceQ, spaceQ, nameQ, nameQ, newAt_elem i hi, show ((i : Int)).toNat = i from rfl, hx (·.space) (fun _ _ => rfl) (fun _ _ => rfl), hx (·.name) (fun _ _ => rfl) (fun _ _ => rfl)]
  exact ⟨rfl, rfl⟩
theorem newAt_named (i : Nat) (hi : i < T.nodes.length) (l : List ByteArray) : namedF (newAt T d a p) i l = namedF T i l := by
  rw [namedF, namedF, newAt_elem i hi, (newAt_what i hi).1, (newAt_what i hi).2]
theorem addF_named (i : Nat) (hi : i < T.nodes.length) (l : List ByteArray) : namedF (addF T d) i l = namedF T i l := by
  have h0 : (addF T d).nodes[i]? = T.nodes[i]? := by simp [addF, List.getElem?_append_left hi]
  rw [namedF, namedF, spaceQ, spaceQ, nameQ, nameQ, addF_elem _ _ i hi, show ((i : Int)).toNat = i from rfl, h0]
theorem newAt_low (hl : Low T) (ha : a < T.nodes.length) : Low (newAt T d a p) := fun i hi => by
  rw [newAt_len] at hi
  by_cases h : i < T.nodes.length
  · rw [newAt_parent i h]; exact hl i h
  · obtain rfl : i = T.nodes.length := by omega
    rw [newAt_parent_new]; omega
theorem addF_last : (addF T d).nodes[T.nodes.length]? = some d := by simp [addF]
/-- a new node is put: the answer -/
theorem putE_new (hd : d.parent = -1) (hl : Low T) (ha : a < T.nodes.length) (hh : holdsF T a = true) (b : Int) (hb : b ≠ ((T.nodes.length : Nat) : Int)) (h1 : 1 ≤ T.nodes.length) (hp : placeF T a b = p) : putE (addF T d) a b ((T.nodes.length : Nat) : Int) = (newAt T d a p, 0) := by
  have hlen : (addF T d).nodes.length = T.nodes.length + 1 := by simp [addF]
  have hplace : placeF (addF T d) a b = p := by rw [← hp, placeF, placeF, addF_kids _ _ a ha]
  have hp1 : parentF (addF T d) ((T.nodes.length : Nat) : Int) = -1 := by
    rw [parentF, show (((T.nodes.length : Nat) : Int)).toNat = T.nodes.length from rfl, addF_last]; exact hd
  have hok : putOk (addF T d) a b ((T.nodes.length : Nat) : Int) = true := by
    rw [putOk, addF_holds _ _ _ ha, hh, hplace, belowF_not (not_reach (T.nodes.length - 1) (fun i hi => by rw [addF_parent _ _ i (by omega)]; exact hl i (by omega)) (by omega) _ (by omega))]
    have h2 : isF (addF T d) ((T.nodes.length : Nat) : Int) = true := by
      simp only [isF, hlen, Bool.and_eq_true, decide_eq_true_eq]; omega
    have h3 : (b != ((T.nodes.length : Nat) : Int)) = true := by rw [bne_iff_ne]; exact hb
    rw [h2, h3]
    simp
  rw [putE, if_pos hok]
  congr 1
  have htk : takeF (addF T d) ((T.nodes.length : Nat) : Int) = addF T d := by
    rw [takeF, kidsOff, hp1, if_neg (by omega)]
    refine tree_ext rfl rfl fun i => ?_
    rw [modN_get]
    split
    · rename_i hi
      subst hi
      rw [addF_last]
      show some (setParent (-1) d) = some d
      rw [← hd]; rfl
    · rfl
  rw [putF, htk, hplace]
  rfl
/-- a new text is put: the answer -/
theorem textE_new (hh : holdsF T a = true) (b : Int) (s : ByteArray) (hs : s.size ≠ 0) (hp : placeF T a b = 0) (hm : (T.nodes.length : Int) - 1 < T.most) : textE T a b s = (newAt T (textN s) a 0, 0) := by
  rw [textE, hh, hp, if_pos (by decide), if_neg hs, textAt, hp, if_neg (by simp), if_pos hm]
  rfl
end

/-- 1 .. n -/
def upN (n : Nat) : List Int := (List.range n).map fun i => ((i + 1 : Nat) : Int)
theorem upN_succ (k : Nat) : upN (k + 1) = upN k ++ [((k + 1 : Nat) : Int)] := by simp [upN, List.range_succ]
theorem upN_len (k : Nat) : (upN k).length = k := by simp [upN]
theorem upN_rev (k : Nat) : (upN (k + 1)).reverse = ((k + 1 : Nat) : Int) :: (upN k).reverse := by rw [upN_succ]; simp
def esF (names : List ByteArray) : List EN := names.map fun x => (x, [])
theorem chain_low (most : Int) (es : List EN) : Low (chainT most es) := fun i hi => by
  rw [chain_len] at hi
  rw [chain_parent most es i hi]; omega
theorem upN_last (n : Nat) : (upN n).getLast?.getD 0 = n := by
  cases n with
  | zero => rfl
  | succ n => rw [upN_succ]; simp
theorem upN_nil (n : Nat) : upN n = [] ↔ n = 0 := by
  rw [← List.length_eq_zero_iff, upN_len]
/-- where things go while nothing is fostered -/
theorem place_off (T : TreeD) (n : Nat) : placeQ T (upN n) false 0 = ((n : Int), 0) := by
  rw [placeQ]
  by_cases h : n = 0
  · subst h; rfl
  · rw [if_neg (by rw [upN_nil]; exact h), if_pos rfl, upN_last]
    rfl
theorem ins_step (most : Int) (es : List EN) (e : EN) (h : (es.length : Int) < most) : insertL (chainT most es) (upN es.length) false 0 e.1 e.2 = (chainT most (es ++ [e]), upN (es.length + 1), ((es.length + 1 : Nat) : Int), 0) := by
  rw [upN_succ]
  exact insertL_yes (chain_add most es e h) (place_off _ _) (congrArg Prod.fst (chain_put most es e))
theorem name_step (names : List ByteArray) (x : ByteArray) (h : names.length < 200) : insertL (chainT 200 (esF names)) (upN names.length) false 0 x [] = (chainT 200 (esF (names ++ [x])), upN (names.length + 1), ((names.length + 1 : Nat) : Int), 0) := by
  have hl : (esF names).length = names.length := by simp [esF]
  have := ins_step 200 (esF names) (x, []) (by rw [hl]; omega)
  rw [hl] at this
  rw [this]
  simp [esF]
theorem chain_named (names : List ByteArray) (i : Nat) (h : i < names.length) (l : List ByteArray) : namedF (chainT 200 (esF names)) ((i + 1 : Nat) : Int) l = isW l names[i] := by
  obtain ⟨h1, h2, h3, _⟩ := chain_elem 200 (esF names) i (by simpa [esF] using h)
  rw [namedF, h1, h2, h3]
  simp [esF]

/-- where things go that are fostered, the lowest table being in the tree -/
theorem fost_at (T : TreeD) (first : Int) (t r : Nat) (ht : namedF T t tableN = true) (ht1 : 1 ≤ t) (hp : parentQ T t = (t : Int) - 1) (hno : ∀ i : Nat, t < i → i ≤ t + r → namedF T i tableN = false) : fostR T first (upN (t + r)).reverse = ((t : Int) - 1, (t : Int)) := by
  induction r with
  | zero =>
    obtain ⟨k, rfl⟩ : ∃ k, t = k + 1 := ⟨t - 1, by omega⟩
    rw [Nat.add_zero, upN_rev, fostR, if_pos ht, hp, if_pos (by omega)]
  | succ r ih =>
    rw [← Nat.add_assoc, upN_rev, fostR, if_neg (by rw [hno (t + r + 1) (by omega) (by omega)]; decide)]
    exact ih fun i h1 h2 => hno i h1 (by omega)
theorem place_on (T : TreeD) (t r : Nat) (hr : namedF T ((t + r : Nat) : Int) rowN = true) (ht : namedF T t tableN = true) (ht1 : 1 ≤ t) (hp : parentQ T t = (t : Int) - 1) (hno : ∀ i : Nat, t < i → i ≤ t + r → namedF T i tableN = false) : placeQ T (upN (t + r)) true 0 = ((t : Int) - 1, (t : Int)) := by
  rw [placeQ, if_neg (by rw [upN_nil]; omega), if_pos rfl, upN_last]
  simp only [hr, Bool.and_self, if_true]
  exact fost_at T _ t r ht ht1 hp hno
theorem parentQ_of (T : TreeD) (i : Nat) (h1 : 1 ≤ i) (h : i < T.nodes.length) : parentQ T i = parentF T i := by
  rw [parentQ, if_pos]
  simp only [isF, Bool.and_eq_true, decide_eq_true_eq]; omega
theorem kidsQ_of (T : TreeD) (i : Nat) (h : i < T.nodes.length) : kidsQ T i = kidsF T i := by
  rw [kidsQ, if_pos (by omega)]
end Go.Proofs.Ytidbihdnginmcaa

/-
  What FormatFosters asks: plain Lean, no Go.
-/
namespace Go.Proofs.Ytidbihdnginmcaa
open Go.RowKit Mem

def rowNs (r : Nat) : List ByteArray := ([⟨#[116, 98, 111, 100, 121]⟩, ⟨#[116, 114]⟩] : List ByteArray).take r
def fosP (A : List ByteArray) : List ByteArray := ((⟨#[98, 111, 100, 121]⟩ : ByteArray) :: A) ++ [(⟨#[116, 97, 98, 108, 101]⟩ : ByteArray)]
def fosN (A : List ByteArray) (r : Nat) : List ByteArray := fosP A ++ rowNs r
section
variable (A : List ByteArray) (r : Nat) (hr : r ≤ 2)
theorem fosP_len : (fosP A).length = A.length + 2 := by simp [fosP]
include hr in
theorem fosN_len : (fosN A r).length = A.length + 2 + r := by simp [fosN, fosP_len, rowNs]; omega
theorem row_no (x : ByteArray) (h : x ∈ ([⟨#[116, 98, 111, 100, 121]⟩, ⟨#[116, 114]⟩] : List ByteArray)) : isW tableN x = false ∧ isW rowN x = true := by
  simp only [List.mem_cons, List.not_mem_nil, or_false] at h
  rcases h with rfl | rfl
  · exact ⟨by kernel_rfl, by kernel_rfl⟩
  · exact ⟨by kernel_rfl, by kernel_rfl⟩
theorem row_yes : isW tableN (⟨#[116, 97, 98, 108, 101]⟩ : ByteArray) = true ∧ isW rowN (⟨#[116, 97, 98, 108, 101]⟩ : ByteArray) = true := ⟨by kernel_rfl, by kernel_rfl⟩
include hr in
theorem fos_table : namedF (chainT 200 (esF (fosN A r))) ((A.length + 2 : Nat) : Int) tableN = true ∧ namedF (chainT 200 (esF (fosN A r))) ((A.length + 2 : Nat) : Int) rowN = true := by
  have hl := fosN_len A r hr
  have hx : (fosN A r)[A.length + 1]'(by omega) = (⟨#[116, 97, 98, 108, 101]⟩ : ByteArray) := by
    simp only [fosN]
    rw [List.getElem_append_left (by rw [fosP_len]; omega)]
    simp [fosP]
  rw [show A.length + 2 = (A.length + 1) + 1 from rfl, chain_named _ _ (by omega), chain_named _ _ (by omega), hx]
  exact row_yes
include hr in
theorem fos_rows (i : Nat) (h1 : A.length + 2 < i) (h2 : i ≤ A.length + 2 + r) : namedF (chainT 200 (esF (fosN A r))) i tableN = false ∧ namedF (chainT 200 (esF (fosN A r))) i rowN = true := by
  have hl := fosN_len A r hr
  obtain ⟨k, rfl⟩ : ∃ k, i = k + 1 := ⟨i - 1, by omega⟩
  have hx : (fosN A r)[k]'(by omega) ∈ ([⟨#[116, 98, 111, 100, 121]⟩, ⟨#[116, 114]⟩] : List ByteArray) := by
    have hp := fosP_len A
    simp only [fosN]
    rw [List.getElem_append_right (by omega)]
    exact List.take_subset r _ (List.getElem_mem _)
  rw [chain_named _ _ (by omega), chain_named _ _ (by omega)]
  exact row_no _ hx
include hr in
theorem fos_top : namedF (chainT 200 (esF (fosN A r))) ((A.length + 2 + r : Nat) : Int) rowN = true := by
  cases r with
  | zero => exact (fos_table A 0 hr).2
  | succ r => exact (fos_rows A (r + 1) hr _ (by omega) (Nat.le_refl _)).2
include hr in
theorem foster_law (on : Bool) (s : ByteArray) (hA : A.length ≤ 30) (hs : s.size ≠ 0) : ∃ T1 T2, textE (chainT 200 (esF (fosN A r))) (placeQ (chainT 200 (esF (fosN A r))) (upN (A.length + 2 + r)) on 0).1 (placeQ (chainT 200 (esF (fosN A r))) (upN (A.length + 2 + r)) on 0).2 s = (T1, 0) ∧
    insertL T1 (upN (A.length + 2 + r)) on 0 (⟨#[105]⟩ : ByteArray) [] = (T2, upN (A.length + 2 + r) ++ [((A.length + 4 + r : Nat) : Int)], ((A.length + 4 + r : Nat) : Int), 0) ∧
    parentQ (chainT 200 (esF (fosN A r))) ((A.length + 2 : Nat) : Int) = ((A.length + 1 : Nat) : Int) ∧ kidsQ (chainT 200 (esF (fosN A r))) ((A.length + 1 : Nat) : Int) = [((A.length + 2 : Nat) : Int)] ∧
    parentQ T2 ((A.length + 4 + r : Nat) : Int) = (if on then ((A.length + 1 : Nat) : Int) else ((A.length + 2 + r : Nat) : Int)) ∧
    kidsQ T2 ((A.length + 1 : Nat) : Int) = (if on then [((A.length + 3 + r : Nat) : Int), ((A.length + 4 + r : Nat) : Int), ((A.length + 2 : Nat) : Int)] else [((A.length + 2 : Nat) : Int)]) := by
  have hl := fosN_len A r hr
  have hel : (esF (fosN A r)).length = A.length + 2 + r := by simp [esF, hl]
  have hT := fos_table A r hr
  have hR := fos_rows A r hr
  have hTop := fos_top A r hr
  have hP := fun i h => chain_parent 200 (esF (fosN A r)) i h
  have hK := fun i h => chain_kids 200 (esF (fosN A r)) i h
  have hH := fun i h => chain_holds 200 (esF (fosN A r)) i h
  have hLow := chain_low 200 (esF (fosN A r))
  have hLen := chain_len 200 (esF (fosN A r))
  have hM : (chainT 200 (esF (fosN A r))).most = 200 := rfl
  rw [hel] at hP hK hH hLen
  generalize chainT 200 (esF (fosN A r)) = T at *
  clear hel hl
  have hpar : parentQ T ((A.length + 2 : Nat) : Int) = ((A.length + 1 : Nat) : Int) := by rw [parentQ_of T _ (by omega) (by omega), hP _ (by omega)]; omega
  have hkid : kidsQ T ((A.length + 1 : Nat) : Int) = [((A.length + 2 : Nat) : Int)] := by rw [kidsQ_of T _ (by omega), hK _ (by omega), if_pos (by omega)]
  cases on with
  | false =>
    have hp1 : placeF T ((A.length + 2 + r : Nat) : Int) 0 = 0 := by rw [placeF, if_pos rfl, hK _ (by omega), if_neg (by omega)]; rfl
    refine ⟨newAt T (textN s) (A.length + 2 + r) 0, newAt (newAt T (textN s) (A.length + 2 + r) 0) (elemN 0 (⟨#[105]⟩ : ByteArray) []) (A.length + 2 + r) 1, ?_, ?_, hpar, hkid, ?_, ?_⟩
    · rw [place_off]
      exact textE_new (hH _ (by omega)) 0 s hs hp1 (by rw [hM]; omega)
    · have hl1 : (newAt T (textN s) (A.length + 2 + r) 0).nodes.length = A.length + 4 + r := by rw [newAt_len]; omega
      refine insertL_yes (U := addF (newAt T (textN s) (A.length + 2 + r) 0) (elemN 0 (⟨#[105]⟩ : ByteArray) [])) ?_ (place_off _ _) ?_
      · unfold mkF
        rw [hl1, if_pos (by rw [newAt_most, hM]; omega)]
      · have := putE_new (T := newAt T (textN s) (A.length + 2 + r) 0) (d := elemN 0 (⟨#[105]⟩ : ByteArray) []) (a := A.length + 2 + r) (p := 1) rfl (newAt_low hLow (by omega)) (by omega) (by rw [newAt, insertF_holds, addF_holds _ _ _ (by omega)]; exact hH _ (by omega)) 0 (by omega) (by omega) (by rw [placeF, if_pos rfl, newAt_kids _ (by omega), if_pos rfl, hK _ (by omega), if_neg (by omega)]; rfl)
        rw [hl1] at this
        rw [this]
    · rw [parentQ_of _ _ (by omega) (by rw [newAt_len, newAt_len]; omega)]
      have := newAt_parent_new (T := newAt T (textN s) (A.length + 2 + r) 0) (d := elemN 0 (⟨#[105]⟩ : ByteArray) []) (a := A.length + 2 + r) (p := 1)
      rw [newAt_len, show T.nodes.length + 1 = A.length + 4 + r by omega] at this
      exact this
    · rw [kidsQ_of _ _ (by rw [newAt_len, newAt_len]; omega), newAt_kids _ (by rw [newAt_len]; omega), if_neg (by omega), newAt_kids _ (by omega), if_neg (by omega), hK _ (by omega), if_pos (by omega)]
      rfl
  | true =>
    have hp1 : placeF T ((A.length + 1 : Nat) : Int) ((A.length + 2 : Nat) : Int) = 0 := by
      rw [placeF, if_neg (by omega), hK _ (by omega), if_pos (by omega), idxF, if_pos (by omega)]
    have hpl : placeQ T (upN (A.length + 2 + r)) true 0 = (((A.length + 1 : Nat) : Int), ((A.length + 2 : Nat) : Int)) := by
      rw [place_on T (A.length + 2) r hTop hT.1 (by omega) (by rw [hpar]; omega) fun i h1 h2 => (hR i h1 h2).1]
      congr 1
      omega
    refine ⟨newAt T (textN s) (A.length + 1) 0, newAt (newAt T (textN s) (A.length + 1) 0) (elemN 0 (⟨#[105]⟩ : ByteArray) []) (A.length + 1) 1, ?_, ?_, hpar, hkid, ?_, ?_⟩
    · rw [hpl]
      exact textE_new (hH _ (by omega)) _ s hs hp1 (by rw [hM]; omega)
    · have hl1 : (newAt T (textN s) (A.length + 1) 0).nodes.length = A.length + 4 + r := by rw [newAt_len]; omega
      refine insertL_yes (U := addF (newAt T (textN s) (A.length + 1) 0) (elemN 0 (⟨#[105]⟩ : ByteArray) [])) (p := ((A.length + 1 : Nat) : Int)) (b := ((A.length + 2 : Nat) : Int)) ?_ ?_ ?_
      · unfold mkF
        rw [hl1, if_pos (by rw [newAt_most, hM]; omega)]
      · rw [place_on _ (A.length + 2) r (by rw [addF_named _ (by omega), newAt_named _ (by omega)]; exact hTop) (by rw [addF_named _ (by omega), newAt_named _ (by omega)]; exact hT.1) (by omega) ?_ fun i h1 h2 => by rw [addF_named _ (by omega), newAt_named _ (by omega)]; exact (hR i h1 h2).1]
        · congr 1
          omega
        · rw [parentQ_of _ _ (by omega) (by simp [addF]; omega), addF_parent _ _ _ (by omega), newAt_parent _ (by omega), hP _ (by omega)]
      · have := putE_new (T := newAt T (textN s) (A.length + 1) 0) (d := elemN 0 (⟨#[105]⟩ : ByteArray) []) (a := A.length + 1) (p := 1) rfl (newAt_low hLow (by omega)) (by omega) (by rw [newAt, insertF_holds, addF_holds _ _ _ (by omega)]; exact hH _ (by omega)) ((A.length + 2 : Nat) : Int) (by omega) (by omega) (by
          rw [placeF, if_neg (by omega), newAt_kids _ (by omega), if_pos rfl, hK _ (by omega), if_pos (by omega)]
          simp only [List.take_zero, List.nil_append, List.drop_zero]
          rw [idxF, if_neg (by omega), idxF, if_pos (by omega)]
          rfl)
        rw [hl1] at this
        rw [this]
    · rw [parentQ_of _ _ (by omega) (by rw [newAt_len, newAt_len]; omega)]
      have := newAt_parent_new (T := newAt T (textN s) (A.length + 1) 0) (d := elemN 0 (⟨#[105]⟩ : ByteArray) []) (a := A.length + 1) (p := 1)
      rw [newAt_len, show T.nodes.length + 1 = A.length + 4 + r by omega] at this
      exact this
    · rw [kidsQ_of _ _ (by rw [newAt_len, newAt_len]; omega), newAt_kids _ (by rw [newAt_len]; omega), if_pos rfl, newAt_kids _ (by omega), if_pos rfl, hK _ (by omega), if_pos (by omega), newAt_len]
      simp only [List.take_zero, List.nil_append, List.drop_zero, List.take_succ_cons, List.drop_succ_cons, List.singleton_append, if_true]
      rw [hLen, show A.length + 2 + r + 1 = A.length + 3 + r by omega, show A.length + 3 + r + 1 = A.length + 4 + r by omega]
end
end Go.Proofs.Ytidbihdnginmcaa
