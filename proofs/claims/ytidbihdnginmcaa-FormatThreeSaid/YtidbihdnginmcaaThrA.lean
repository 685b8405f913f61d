/-
  Elements of a chain that have the same two attributes, and the entries: what FormatThree asks: plain Lean, no Go.
-/
import Derived.Test.YtidbihdnginmcaaFmG
namespace Go.Proofs.Ytidbihdnginmcaa
open Go.RowKit Mem

def at1 : List Pair := [((⟨#[97]⟩ : ByteArray), (⟨#[49]⟩ : ByteArray)), ((⟨#[98]⟩ : ByteArray), ⟨#[]⟩)]
def at2 : List Pair := [((⟨#[98]⟩ : ByteArray), ⟨#[]⟩), ((⟨#[97]⟩ : ByteArray), (⟨#[49]⟩ : ByteArray))]
def isA (l : List Pair) : Prop := l = at1 ∨ l = at2
theorem isA_like {x y : List Pair} (hx : isA x) (hy : isA y) : (decide (x.length = y.length) && allIn x y && allIn y x) = true := by
  rcases hx with rfl | rfl <;> rcases hy with rfl | rfl <;> kernel_rfl
def inE (es : List EN) (x : Int) : Prop := 1 ≤ x ∧ x ≤ es.length
theorem inE_nat {es : List EN} {x : Int} (h : inE es x) : ∃ i : Nat, i < es.length ∧ x = ((i + 1 : Nat) : Int) := ⟨(x - 1).toNat, by unfold inE at h; omega, by unfold inE at h; omega⟩
theorem inE_more {es : List EN} {x : Int} (h : inE es x) (e : EN) : inE (es ++ [e]) x := by
  unfold inE at *
  simp only [List.length_append, List.length_singleton]
  omega
theorem chain_like {most : Int} {es : List EN} (h : ∀ e ∈ es, isA e.2) {a b : Int} (ha : inE es a) (hb : inE es b) : likeQ (chainT most es) a b = ((nameQ (chainT most es) a).toList == (nameQ (chainT most es) b).toList) := by
  obtain ⟨i, hi, rfl⟩ := inE_nat ha
  obtain ⟨j, hj, rfl⟩ := inE_nat hb
  obtain ⟨_, h1, h2, h3⟩ := chain_elem most es i hi
  obtain ⟨_, k1, k2, k3⟩ := chain_elem most es j hj
  have := isA_like (h _ (List.getElem_mem hi)) (h _ (List.getElem_mem hj))
  rw [likeQ, h1, k1, h2, k2, h3, k3, Bool.and_assoc, Bool.and_assoc, ← Bool.and_assoc (decide _), this]
  simp
theorem chain_name {most : Int} {es : List EN} (e : EN) {x : Int} (h : inE es x) : nameQ (chainT most (es ++ [e])) x = nameQ (chainT most es) x := by
  obtain ⟨i, hi, rfl⟩ := inE_nat h
  rw [(chain_elem most (es ++ [e]) i (by simp; omega)).2.2.1, (chain_elem most es i hi).2.2.1, List.getElem_append_left hi]

theorem chain_last {most : Int} (es : List EN) (e : EN) : nameQ (chainT most (es ++ [e])) ((es ++ [e]).length : Nat) = e.1 := by
  have := (chain_elem most (es ++ [e]) es.length (by simp)).2.2.1
  rw [show (es ++ [e]).length = es.length + 1 by simp, this]
  simp
/-- does an entry's element have the name -/
def pN (T : TreeD) (nm : ByteArray) (x : Int) : Bool := (nameQ T x).toList == nm.toList
/-- the places from h on, ahead of k, whose elements have the name -/
def ixm (T : TreeD) (nm : ByteArray) (ent : List Int) (h k : Nat) : List Nat := (List.range k).filter fun i => decide (h ≤ i) && pN T nm (ent.getD i 0)
theorem ixm_start (T : TreeD) (nm : ByteArray) (ent : List Int) (h k : Nat) (hk : k ≤ h) : ixm T nm ent h k = [] := by
  rw [ixm, List.filter_eq_nil_iff]
  intro i hi
  have : i < k := by simpa using hi
  simp; omega
theorem ixm_step (T : TreeD) (nm : ByteArray) (ent : List Int) (h k : Nat) (hh : h ≤ k) : ixm T nm ent h (k + 1) = ixm T nm ent h k ++ if pN T nm (ent.getD k 0) then [k] else [] := by
  rw [ixm, List.range_succ, List.filter_append, ixm]
  congr 1
  simp only [List.filter_cons, List.filter_nil, decide_eq_true hh, Bool.true_and]
theorem ixm_down (T : TreeD) (nm : ByteArray) (ent : List Int) (h : Nat) : ∀ d : Nat, ixm T nm ent h (h + 1 + d) = (if pN T nm (ent.getD h 0) then [h] else []) ++ ixm T nm ent (h + 1) (h + 1 + d)
  | 0 => by rw [Nat.add_zero, ixm_step _ _ _ _ _ (Nat.le_refl _), ixm_start _ _ _ _ _ (Nat.le_refl _), ixm_start _ _ _ _ _ (Nat.le_refl _)]; simp
  | d + 1 => by rw [← Nat.add_assoc, ixm_step _ _ _ _ _ (by omega), ixm_step _ _ _ _ _ (by omega), ixm_down T nm ent h d, List.append_assoc]
theorem ixm_first (T : TreeD) (nm : ByteArray) (ent : List Int) (h k : Nat) (hk : h < k) : ixm T nm ent h k = (if pN T nm (ent.getD h 0) then [h] else []) ++ ixm T nm ent (h + 1) k := by
  obtain ⟨d, rfl⟩ : ∃ d, k = h + 1 + d := ⟨k - (h + 1), by omega⟩
  exact ixm_down T nm ent h d
theorem ixm_in {T : TreeD} {nm : ByteArray} {ent : List Int} {h k i : Nat} (hi : i ∈ ixm T nm ent h k) : h ≤ i ∧ i < k ∧ pN T nm (ent.getD i 0) = true := by
  have := List.mem_filter.1 hi
  simp only [List.mem_range, Bool.and_eq_true, decide_eq_true_eq] at this
  exact ⟨this.2.1, this.1, this.2.2⟩
theorem ixm_len (T : TreeD) (nm : ByteArray) (ent : List Int) (h k : Nat) : (ixm T nm ent h k).length ≤ k := by
  have := List.length_filter_le (fun i => decide (h ≤ i) && pN T nm (ent.getD i 0)) (List.range k)
  rw [List.length_range] at this
  exact this
/-- how many -/
def cntN (T : TreeD) (nm : ByteArray) (l : List Int) : Nat := l.countP (pN T nm)
theorem ixm_cnt (T : TreeD) (nm : ByteArray) (ent : List Int) : ∀ (d h : Nat), h + d = ent.length → (ixm T nm ent h ent.length).length = cntN T nm (ent.drop h)
  | 0, h, hd => by rw [ixm_start _ _ _ _ _ (by omega), List.drop_of_length_le (by omega)]; rfl
  | d + 1, h, hd => by
    have hlt : h < ent.length := by omega
    have hg : ent.getD h 0 = ent[h] := by simp [List.getD, List.getElem?_eq_getElem hlt]
    rw [ixm_first _ _ _ _ _ hlt, List.drop_eq_getElem_cons hlt, List.length_append, ixm_cnt T nm ent d (h + 1) (by omega), hg]
    show _ = cntN T nm (ent[h] :: ent.drop (h + 1))
    rw [cntN, cntN, List.countP_cons]
    split <;> simp <;> omega

/-! where what is at hand begins -/
theorem hand_spec (ent : List Int) : handF ent ≤ ent.length ∧ (∀ (k : Nat) (h : k < ent.length), handF ent ≤ k → ent[k] ≠ -1) ∧ (0 < handF ent → ent[handF ent - 1]? = some (-1)) := by
  obtain ⟨h1, h2, h3, h4⟩ := rfind_spec ent (-1)
  obtain ⟨e1, e2⟩ := handF_le ent
  refine ⟨e2, fun k h hk => h3 k h (by omega), fun h => ?_⟩
  have hlt : handF ent - 1 < ent.length := by omega
  rw [List.getElem?_eq_getElem hlt, h4 (handF ent - 1) hlt (by omega)]
theorem hand_eq {ent : List Int} {m : Nat} (h1 : m ≤ ent.length) (h2 : ∀ (k : Nat) (h : k < ent.length), m ≤ k → ent[k] ≠ -1) (h3 : 0 < m → ent[m - 1]? = some (-1)) : handF ent = m := by
  unfold handF
  rw [rfind_eq (i := (m : Int) - 1) (by omega) (by omega) (fun k h hk => h2 k h (by omega)) (fun k h hk => by
    have := h3 (by omega)
    rw [show m - 1 = k by omega, List.getElem?_eq_getElem h] at this
    exact Option.some.inj this)]
  omega
theorem hand_mark (ent : List Int) : handF (ent ++ [-1]) = ent.length + 1 :=
  hand_eq (by simp) (fun k h hk => by simp at h; omega) (fun _ => by simp)
theorem hand_more (ent : List Int) (n : Int) (hn : n ≠ -1) : handF (ent ++ [n]) = handF ent := by
  obtain ⟨h1, h2, h3⟩ := hand_spec ent
  refine hand_eq (by simp; omega) (fun k h hk => ?_) (fun h => ?_)
  · by_cases hlt : k < ent.length
    · rw [List.getElem_append_left hlt]; exact h2 k hlt hk
    · rw [List.getElem_append_right (by omega)]; simpa using hn
  · rw [List.getElem?_append_left (by omega)]; exact h3 h
theorem hand_erase (ent : List Int) (i : Nat) (h1 : handF ent ≤ i) (h2 : i < ent.length) : handF (ent.eraseIdx i) = handF ent := by
  obtain ⟨k1, k2, k3⟩ := hand_spec ent
  refine hand_eq (by rw [List.length_eraseIdx]; split <;> omega) (fun k h hk => ?_) (fun h => ?_)
  · have hl : (ent.eraseIdx i).length = ent.length - 1 := by rw [List.length_eraseIdx, if_pos h2]
    rw [List.getElem_eraseIdx]
    split
    · exact k2 _ _ hk
    · exact k2 _ (by omega) (by omega)
  · rw [List.getElem?_eraseIdx_of_lt (by omega)]; exact k3 h

/-- all that the law holds -/
structure TH (es : List EN) (ent : List Int) : Prop where
  two : ∀ e ∈ es, isA e.2
  inn : ∀ x ∈ ent, x = -1 ∨ inE es x
  few : ∀ nm, cntN (chainT 600 es) nm (ent.drop (handF ent)) ≤ 3
section
variable {es : List EN} {ent : List Int}
theorem TH.at (h : TH es ent) (k : Nat) (hk : k < ent.length) (hh : handF ent ≤ k) : inE es ent[k] := by
  rcases h.inn _ (List.getElem_mem hk) with e | e
  · exact absurd e ((hand_spec ent).2.1 k hk hh)
  · exact e
theorem TH.hand (h : TH es ent) : ∀ x ∈ ent.drop (handF ent), inE es x := fun x hx => by
  obtain ⟨i, hi, rfl⟩ := List.getElem_of_mem hx
  rw [List.length_drop] at hi
  rw [List.getElem_drop]
  exact h.at _ (by omega) (by omega)
theorem TH.add (h : TH es ent) (e : EN) (he : isA e.2) : TH (es ++ [e]) ent := by
  refine ⟨fun x hx => ?_, fun x hx => (h.inn x hx).imp id fun q => inE_more q e, fun nm => ?_⟩
  · rcases List.mem_append.1 hx with hx | hx
    · exact h.two x hx
    · rw [List.mem_singleton.1 hx]; exact he
  · refine Nat.le_trans (Nat.le_of_eq ?_) (h.few nm)
    unfold cntN
    refine List.countP_congr fun x hx => ?_
    rw [pN, pN, chain_name e (h.hand x hx)]
theorem TH.mark (h : TH es ent) : TH es (ent ++ [-1]) := by
  refine ⟨h.two, fun x hx => ?_, fun nm => ?_⟩
  · rcases List.mem_append.1 hx with hx | hx
    · exact h.inn x hx
    · exact .inl (List.mem_singleton.1 hx)
  · rw [hand_mark, List.drop_of_length_le (by simp)]
    exact Nat.zero_le _
theorem firstI_mem {l : List Nat} (h : 0 < l.length) : ∃ i, i ∈ l ∧ firstI l = i := by
  cases l with
  | nil => cases h
  | cons i r => exact ⟨i, List.mem_cons_self, rfl⟩
theorem TH.like (h : TH es ent) {n : Int} (hn : inE es n) : ixs (chainT 600 es) n ent (handF ent) ent.length = ixm (chainT 600 es) (nameQ (chainT 600 es) n) ent (handF ent) ent.length := by
  unfold ixs ixm
  refine List.filter_congr fun i hi => ?_
  have hi : i < ent.length := by simpa using hi
  have hg : ent.getD i 0 = ent[i] := by simp [List.getD, List.getElem?_eq_getElem hi]
  by_cases hh : handF ent ≤ i
  · rw [hg, chain_like h.two (h.at i hi hh) hn]; rfl
  · simp [hh]
theorem countP_erase {p : Int → Bool} {l : List Int} {j : Nat} (hj : j < l.length) : (l.eraseIdx j).countP p + (if p l[j] then 1 else 0) = l.countP p := by
  rw [List.eraseIdx_eq_take_drop_succ, List.countP_append]
  conv => rhs; rw [← List.take_append_drop j l, List.drop_eq_getElem_cons hj, List.countP_append, List.countP_cons]
  omega
/-- behind a Push -/
theorem TH.push (h : TH es ent) {n : Int} (hn : inE es n) : (ixm (chainT 600 es) (nameQ (chainT 600 es) n) ent (handF ent) ent.length).length ≤ 3 ∧
    pushF (chainT 600 es) ent n = (if (ixm (chainT 600 es) (nameQ (chainT 600 es) n) ent (handF ent) ent.length).length = 3 then ent.eraseIdx (firstI (ixm (chainT 600 es) (nameQ (chainT 600 es) n) ent (handF ent) ent.length)).toNat else ent) ++ [n] ∧
    ((ixm (chainT 600 es) (nameQ (chainT 600 es) n) ent (handF ent) ent.length).length = 3 → ∃ i : Nat, firstI (ixm (chainT 600 es) (nameQ (chainT 600 es) n) ent (handF ent) ent.length) = i ∧ i < ent.length) ∧
    TH es (pushF (chainT 600 es) ent n) ∧ handF (pushF (chainT 600 es) ent n) = handF ent := by
  have hle := (hand_spec ent).1
  have hc := fun nm => ixm_cnt (chainT 600 es) nm ent (ent.length - handF ent) (handF ent) (by omega)
  have hlk := h.like hn
  have h3 : (ixm (chainT 600 es) (nameQ (chainT 600 es) n) ent (handF ent) ent.length).length ≤ 3 := by rw [hc]; exact h.few _
  have hn1 : n ≠ -1 := by unfold inE at hn; omega
  rw [pushF, hlk]
  generalize hm : ixm (chainT 600 es) (nameQ (chainT 600 es) n) ent (handF ent) ent.length = m at *
  refine ⟨h3, ?_⟩
  by_cases he : m.length = 3
  · rw [if_pos (by omega), if_pos he]
    obtain ⟨i, hi, hf⟩ := firstI_mem (l := m) (by omega)
    obtain ⟨i1, i2, i3⟩ := ixm_in (by rw [hm]; exact hi)
    have hg : ent.getD i 0 = ent[i] := by simp [List.getD, List.getElem?_eq_getElem i2]
    rw [hg] at i3
    rw [hf, dropF, if_pos (by omega), show ((i : Int)).toNat = i from rfl]
    refine ⟨rfl, fun _ => ⟨i, rfl, i2⟩, ⟨h.two, fun x hx => ?_, fun nm => ?_⟩, ?_⟩
    · rcases List.mem_append.1 hx with hx | hx
      · exact h.inn x (List.mem_of_mem_eraseIdx hx)
      · rw [List.mem_singleton.1 hx]; exact .inr hn
    · rw [hand_more _ _ hn1, hand_erase _ _ i1 i2, List.drop_append_of_le_length (by rw [List.length_eraseIdx, if_pos i2]; omega)]
      have hd : (ent.eraseIdx i).drop (handF ent) = (ent.drop (handF ent)).eraseIdx (i - handF ent) := by
        rw [List.eraseIdx_eq_take_drop_succ, List.eraseIdx_eq_take_drop_succ, List.drop_append_of_le_length (by rw [List.length_take]; omega), List.drop_take, List.drop_drop, show handF ent + (i - handF ent + 1) = i + 1 by omega]
      have hlt : i - handF ent < (ent.drop (handF ent)).length := by rw [List.length_drop]; omega
      have hce := countP_erase (p := pN (chainT 600 es) nm) hlt
      have hx : (ent.drop (handF ent))[i - handF ent] = ent[i] := by
        rw [List.getElem_drop]
        congr 1
        omega
      rw [hx] at hce
      have hf3 := h.few nm
      rw [cntN, List.countP_append, hd]
      rw [cntN] at hf3
      have hone : List.countP (pN (chainT 600 es) nm) [n] = if pN (chainT 600 es) nm n then 1 else 0 := by simp [List.countP_cons]
      rw [hone]
      by_cases hp : pN (chainT 600 es) nm n = true
      · have hp' : pN (chainT 600 es) nm ent[i] = true := by
          simp only [pN, beq_iff_eq] at hp i3 ⊢
          rw [i3, hp]
        rw [if_pos hp'] at hce
        rw [if_pos hp]
        omega
      · rw [if_neg hp]
        omega
    · rw [hand_more _ _ hn1, hand_erase _ _ i1 i2]
  · rw [if_neg (by omega), if_neg he]
    refine ⟨rfl, fun e => absurd e he, ⟨h.two, fun x hx => ?_, fun nm => ?_⟩, hand_more _ _ hn1⟩
    · rcases List.mem_append.1 hx with hx | hx
      · exact h.inn x hx
      · rw [List.mem_singleton.1 hx]; exact .inr hn
    · rw [hand_more _ _ hn1, List.drop_append_of_le_length hle, cntN, List.countP_append]
      have hf3 := h.few nm
      rw [cntN] at hf3
      have hone : List.countP (pN (chainT 600 es) nm) [n] = if pN (chainT 600 es) nm n then 1 else 0 := by simp [List.countP_cons]
      rw [hone]
      by_cases hp : pN (chainT 600 es) nm n = true
      · have hcm := hc (nameQ (chainT 600 es) n)
        rw [hm] at hcm
        have hsame : List.countP (pN (chainT 600 es) nm) (ent.drop (handF ent)) = m.length := by
          rw [hcm, cntN]
          refine List.countP_congr fun x _ => ?_
          simp only [pN, beq_iff_eq] at hp ⊢
          rw [hp]
        rw [if_pos hp, hsame]
        omega
      · rw [if_neg hp]
        omega
end
end Go.Proofs.Ytidbihdnginmcaa
