/-
  Texts in UTF-8: what is written of them, and what is read, is in UTF-8. Plain.
-/
import Derived.Test.YtcgkenmgglediaaDoorRefsAG
import Derived.Test.YtcgkenmgglediaaDoorRefsNames
import Derived.Test.YtcgkenmgglediaaDoorRefsLaws
import Derived.Test.YtcgkenmgglediaaDoorRefsP
import Derived.Test.YtcgkenmgglediaaDoorRefsAB
import Derived.Test.YtcgkenmgglediaaDoorRefsM
import Derived.Test.YtcgkenmgglediaaDoorRefsY
namespace Go.Proofs.YtcgkenmgglediaaDoor
open Go.RowKit Mem

def Valid (s : Str) : Prop := ∃ cs : List Nat, (∀ c ∈ cs, charB (c : Int) = true) ∧ s = cs.flatMap encF
theorem Valid.nil : Valid [] := ⟨[], fun _ h => (by cases h), rfl⟩
theorem Valid.append {s t : Str} (h : Valid s) (h' : Valid t) : Valid (s ++ t) := by
  obtain ⟨cs, h1, rfl⟩ := h
  obtain ⟨ds, h2, rfl⟩ := h'
  exact ⟨cs ++ ds, fun c hc => (List.mem_append.1 hc).elim (h1 c) (h2 c), List.flatMap_append.symm⟩
theorem Valid.char {c : Nat} (h : charB (c : Int) = true) : Valid (encF c) := ⟨[c], fun d hd => by rw [List.mem_singleton.1 hd]; exact h, by simp⟩
theorem valid_runes (r : List Int) : Valid (r.flatMap encR) := by
  induction r with
  | nil => exact Valid.nil
  | cons x r ih =>
    rw [List.flatMap_cons, encR_sub]
    exact (Valid.char (subC_char x)).append ih
theorem valid_cases {s : Str} (h : Valid s) : s = [] ∨ ∃ (c : Nat) (r : Str), charB (c : Int) = true ∧ s = encF c ++ r ∧ Valid r := by
  obtain ⟨cs, h1, rfl⟩ := h
  cases cs with
  | nil => exact .inl rfl
  | cons c r => exact .inr ⟨c, r.flatMap encF, h1 c List.mem_cons_self, by rw [List.flatMap_cons], ⟨r, fun d hd => h1 d (List.mem_cons_of_mem _ hd), rfl⟩⟩
theorem of_nat {n : Nat} (h : n < 256) : (UInt8.ofNat n).toNat = n := UInt8.toNat_ofNat_of_lt' (by simpa using h)
theorem nat_of (b : UInt8) : UInt8.ofNat b.toNat = b := by simp

/-- the bytes of a character -/
theorem encF_shape {c : Nat} (hc : c ≤ 1114111) : (c < 128 ∧ encF c = [UInt8.ofNat c]) ∨ (128 ≤ c ∧ ∃ x t, encF c = x :: t ∧ 192 ≤ x.toNat ∧ (∀ y ∈ t, 128 ≤ y.toNat ∧ y.toNat < 192) ∧ t ≠ [] ∧ (x = 194 → t.head? = some 160 → c = 160)) := by
  have m64 : ∀ q : Nat, (UInt8.ofNat (128 + q % 64)).toNat = 128 + q % 64 := fun q => of_nat (by have := Nat.mod_lt q (show 64 > 0 by decide); omega)
  by_cases h1 : c < 128
  · exact .inl ⟨h1, enc1 h1⟩
  · refine .inr ⟨by omega, ?_⟩
    by_cases h2 : c < 2048
    · have hx : (UInt8.ofNat (192 + c / 64)).toNat = 192 + c / 64 := of_nat (by omega)
      refine ⟨_, _, enc2 h1 h2, by rw [hx]; omega, ?_, by simp, ?_⟩
      · intro y hy
        rw [List.mem_singleton.1 hy, m64]
        omega
      · intro e1 e2
        have a1 := congrArg UInt8.toNat e1
        rw [hx] at a1
        simp only [List.head?_cons, Option.some.injEq] at e2
        have a2 := congrArg UInt8.toNat e2
        rw [m64] at a2
        have b1 : (194 : UInt8).toNat = 194 := rfl
        have b2 : (160 : UInt8).toNat = 160 := rfl
        omega
    · by_cases h3 : c < 65536
      · have hx : (UInt8.ofNat (224 + c / 4096)).toNat = 224 + c / 4096 := of_nat (by omega)
        refine ⟨_, _, enc3 h2 h3, by rw [hx]; omega, ?_, by simp, ?_⟩
        · intro y hy
          simp only [List.mem_cons, List.not_mem_nil, or_false] at hy
          rcases hy with rfl | rfl
          · rw [m64]; omega
          · rw [m64]; omega
        · intro e1 _
          have a1 := congrArg UInt8.toNat e1
          rw [hx] at a1
          have b1 : (194 : UInt8).toNat = 194 := rfl
          omega
      · have hx : (UInt8.ofNat (240 + c / 262144)).toNat = 240 + c / 262144 := of_nat (by omega)
        refine ⟨_, _, enc4 h3, by rw [hx]; omega, ?_, by simp, ?_⟩
        · intro y hy
          simp only [List.mem_cons, List.not_mem_nil, or_false] at hy
          rcases hy with rfl | rfl | rfl
          · rw [m64]; omega
          · rw [m64]; omega
          · rw [m64]; omega
        · intro e1 _
          have a1 := congrArg UInt8.toNat e1
          rw [hx] at a1
          have b1 : (194 : UInt8).toNat = 194 := rfl
          omega
theorem char_le {c : Nat} (h : charB (c : Int) = true) : c ≤ 1114111 := by have := ((charB_iff _).1 h).2.1; omega

theorem Valid.ascii : ∀ {s : Str}, (∀ b ∈ s, b.toNat < 128) → Valid s
  | [], _ => Valid.nil
  | b :: r, h => by
    have hb := h b List.mem_cons_self
    have h1 : Valid [b] := by
      have hc : charB ((b.toNat : Nat) : Int) = true := (charB_iff _).2 ⟨by omega, by omega, by omega⟩
      have := Valid.char hc
      rw [enc1 hb, nat_of] at this
      exact this
    exact h1.append (Valid.ascii (s := r) fun d hd => h d (List.mem_cons_of_mem _ hd))
theorem Valid.tail {b : UInt8} {r : Str} (h : Valid (b :: r)) (hb : b.toNat < 128) : Valid r := by
  rcases valid_cases h with h | ⟨c, q, hc, he, hq⟩
  · cases h
  · rcases encF_shape (char_le hc) with ⟨_, h2⟩ | ⟨_, x, t, h2, h3, _, _⟩
    · rw [h2] at he
      injection he with _ e2
      rw [e2]
      exact hq
    · rw [h2] at he
      injection he with e1 _
      rw [e1] at hb
      omega
theorem Valid.drop : ∀ {n : Nat} {s : Str}, Valid s → (∀ b ∈ s.take n, b.toNat < 128) → Valid (s.drop n)
  | 0, _, h, _ => h
  | n + 1, [], _, _ => Valid.nil
  | n + 1, b :: r, h, ha => Valid.drop (n := n) (h.tail (ha b (by simp))) fun d hd => ha d (by simp [hd])

theorem digs_ascii {b : Nat} (hb : b ≤ 16) : ∀ (k : Nat) (s : Str) (v : Nat), ∀ c ∈ s.take (digsF b k s v).1, c.toNat < 128
  | 0, s, v => by rw [digsF_fuel]; simp
  | k + 1, [], v => by simp
  | k + 1, c :: r, v => by
    by_cases h : digV c.toNat < b
    · rw [digsF_go h]
      intro d hd
      simp only [List.take_succ_cons, List.mem_cons] at hd
      rcases hd with rfl | hd
      · unfold digV at h
        split at h
        · omega
        · split at h
          · omega
          · split at h
            · omega
            · omega
      · exact digs_ascii hb k r _ d hd
    · rw [digsF_break h]; simp
theorem num_ascii (r : Str) : ∀ c ∈ r.take (numN r), c.toNat < 128 := by
  cases hx : xB r
  · obtain ⟨h1, h2⟩ := head_n hx
    rw [numN, h1, h2, List.drop_zero, Nat.zero_add]
    exact digs_ascii (by decide) _ _ _
  · obtain ⟨h1, h2⟩ := head_x hx
    cases r with
    | nil => cases hx
    | cons c q =>
      rw [numN, h1, h2, Nat.add_comm 1, List.drop_succ_cons, List.drop_zero]
      intro d hd
      simp only [List.take_succ_cons, List.mem_cons] at hd
      rcases hd with rfl | hd
      · simp only [xB, Bool.or_eq_true, beq_iff_eq] at hx
        rcases hx with rfl | rfl <;> decide
      · exact digs_ascii (by decide) _ _ _ d hd
theorem take_next {r : Str} {n : Nat} {c : UInt8} (h : (r.drop n).head? = some c) : r.take (n + 1) = r.take n ++ [c] := by
  rw [List.head?_drop] at h
  obtain ⟨hl, he⟩ := List.getElem?_eq_some_iff.1 h
  rw [List.take_succ_eq_append_getElem hl, he]
theorem keys_ascii : ∀ k ∈ keys, ∀ b ∈ k.1, b.toNat < 128 := by decide +kernel
theorem names_char : ∀ x ∈ namesT, charB (x.2.1 : Int) = true ∧ charB (x.2.2.1 : Int) = true := by decide +kernel
theorem oddT_char : ∀ c ∈ oddT, charB (c : Int) = true := by decide +kernel

theorem take_ascii (s : Str) (attr : Bool) : ∀ c ∈ s.take (takeF s attr).2, c.toNat < 128 := by
  rcases amp_cases s with ⟨r, rfl⟩ | ⟨r, rfl, h35⟩ | ⟨c, r, rfl, hc⟩ | rfl
  · rw [takeF_hash]
    by_cases h0 : (numG r).1 = 0
    · rw [takeNum_no h0]; simp
    · by_cases h59 : (r.drop (numN r)).head? = some 59
      · rw [takeNum_semi h0 h59]
        intro d hd
        simp only [List.take_succ_cons, List.mem_cons] at hd
        rcases hd with rfl | rfl | hd
        · decide
        · decide
        · rw [take_next h59] at hd
          rcases List.mem_append.1 hd with hd | hd
          · exact num_ascii r d hd
          · rw [List.mem_singleton.1 hd]; decide
      · rw [takeNum_open h0 h59]
        intro d hd
        simp only [List.take_succ_cons, List.mem_cons] at hd
        rcases hd with rfl | rfl | hd
        · decide
        · decide
        · exact num_ascii r d hd
  · rw [takeF_amp h35]
    cases href : refused r attr
    · rw [takeName_yes href]
      intro d hd
      simp only [List.take_succ_cons, List.mem_cons] at hd
      rcases hd with rfl | hd
      · decide
      · rcases (findF_spec r).1 with ⟨h1, _⟩ | ⟨_, _, h3⟩
        · rw [h1] at hd; simp at hd
        · exact keys_ascii _ h3 d hd
    · rw [takeName_no href]; simp
  · rw [takeF_other hc]; simp
  · simp
theorem numC_char (n : Nat) (_ : n ≤ 1114112) : charB ((numC n : Nat) : Int) = true := by
  unfold numC
  split
  · decide
  · rename_i h
    split
    · rename_i h2
      rw [Int.toNat_natCast]
      have hj : n - 128 < oddT.length := by show n - 128 < 32; omega
      rw [List.getD_eq_getElem?_getD, List.getElem?_eq_getElem hj]
      exact oddT_char _ (List.getElem_mem hj)
    · rw [Int.toNat_natCast]
      cases hc : charB (n : Int)
      · exact absurd (.inr hc) h
      · rfl
theorem key_valid {k : Str × Str} (hk : k ∈ keys) : Valid k.2 := by
  obtain ⟨x, hx, hm⟩ := List.mem_flatMap.1 (keys_rows.1 k hk)
  have hch : Valid (chars x.2.1 x.2.2.1) := by
    unfold chars
    refine (Valid.char (names_char x hx).1).append ?_
    split
    · exact Valid.char (names_char x hx).2
    · exact Valid.nil
  unfold rowsOf at hm
  rcases List.mem_cons.1 hm with rfl | hm
  · exact hch
  · split at hm
    · rw [List.mem_singleton.1 hm]; exact hch
    · cases hm
theorem take_valid (s : Str) (attr : Bool) : Valid (takeF s attr).1 := by
  have hnum : ∀ r, Valid (numF ((numG r).2 : Nat)) := fun r => Valid.char (numC_char _ (numG_bound r))
  rcases amp_cases s with ⟨r, rfl⟩ | ⟨r, rfl, h35⟩ | ⟨c, r, rfl, hc⟩ | rfl
  · rw [takeF_hash]
    by_cases h0 : (numG r).1 = 0
    · rw [takeNum_no h0]; exact Valid.nil
    · by_cases h59 : (r.drop (numN r)).head? = some 59
      · rw [takeNum_semi h0 h59]; exact hnum r
      · rw [takeNum_open h0 h59]; exact hnum r
  · rw [takeF_amp h35]
    cases href : refused r attr
    · rw [takeName_yes href]
      rcases (findF_spec r).1 with ⟨_, h2⟩ | ⟨_, _, h3⟩
      · show Valid (findF r).1; rw [h2]; exact Valid.nil
      · exact key_valid h3
    · rw [takeName_no href]; exact Valid.nil
  · rw [takeF_other hc]; exact Valid.nil
  · rw [takeF_nil]; exact Valid.nil

theorem valid_allS (attr : Bool) : ∀ (n : Nat) (s : Str), s.length ≤ n → Valid s → Valid (allS s attr)
  | n, [], _, _ => by rw [allS_nil]; exact Valid.nil
  | 0, c :: r, hn, _ => by simp at hn
  | n + 1, c :: r, hn, h => by
    simp only [List.length_cons] at hn
    by_cases hh : c = 38 ∧ (takeF (c :: r) attr).2 ≠ 0
    · rw [allS_cons, if_pos hh]
      refine (take_valid _ _).append (valid_allS attr n _ ?_ (h.drop (take_ascii _ _)))
      rw [List.length_drop, List.length_cons]
      have := hh.2
      omega
    · rcases valid_cases h with h0 | ⟨ch, q, hc, he, hq⟩
      · cases h0
      · rcases encF_shape (char_le hc) with ⟨h1, h2⟩ | ⟨_, x, t, h2, h3, h4, _, _⟩
        · rw [h2] at he
          injection he with e1 e2
          rw [allS_cons, if_neg hh]
          have hv : Valid [c] := by rw [e1, ← h2]; exact Valid.char hc
          exact hv.append (valid_allS attr n r (by omega) (by rw [e2]; exact hq))
        · rw [he, allS_pre attr q (encF ch) (by
            intro d hd e
            rw [h2] at hd
            rcases List.mem_cons.1 hd with rfl | hd
            · rw [e] at h3; revert h3; decide
            · have := h4 d hd; rw [e] at this; revert this; decide)]
          refine (Valid.char hc).append (valid_allS attr n q ?_ hq)
          have := congrArg List.length he
          rw [List.length_append, h2, List.length_cons, List.length_cons] at this
          omega

theorem escOne_high {attr : Bool} {c : UInt8} (h : 128 ≤ c.toNat) : escOne attr c = [c] := by
  unfold escOne
  rw [if_neg (fun e => by rw [e] at h; revert h; decide), if_neg (fun e => by rw [e] at h; revert h; decide), if_neg (fun e => by rw [e] at h; revert h; decide), if_neg (fun e => by have := e.1; rw [this] at h; revert h; decide)]
theorem escG_mid {attr : Bool} (q : Str) : ∀ t : Str, (∀ y ∈ t, 128 ≤ y.toNat ∧ y.toNat < 192) → escG attr false (t ++ q) = t ++ escG attr false q
  | [], _ => rfl
  | y :: t, h => by
    have hy := h y List.mem_cons_self
    rw [List.cons_append, escG, if_neg (fun e => by have := e.1; rw [this] at hy; revert hy; decide), escOne_high hy.1, escG_mid q t fun d hd => h d (List.mem_cons_of_mem _ hd)]
    rfl
theorem escOne_ascii {attr : Bool} {c : UInt8} (h : c.toNat < 128) : ∀ d ∈ escOne attr c, d.toNat < 128 := by
  unfold escOne
  split
  · decide
  · split
    · decide
    · split
      · decide
      · split
        · decide
        · intro d hd
          rw [List.mem_singleton.1 hd]
          exact h
theorem valid_escG (attr : Bool) : ∀ cs : List Nat, (∀ c ∈ cs, charB (c : Int) = true) → Valid (escG attr false (cs.flatMap encF))
  | [], _ => by rw [List.flatMap_nil, escG]; exact Valid.nil
  | c :: cs, h => by
    have ih := valid_escG attr cs fun d hd => h d (List.mem_cons_of_mem _ hd)
    have hc := h c List.mem_cons_self
    rw [List.flatMap_cons]
    rcases encF_shape (char_le hc) with ⟨h1, h2⟩ | ⟨h1, x, t, h2, h3, h4, h5, h6⟩
    · rw [h2, List.singleton_append, escG, if_neg (fun e => by
        have := congrArg UInt8.toNat e.1
        rw [of_nat (by omega)] at this
        have b1 : (194 : UInt8).toNat = 194 := rfl
        omega)]
      exact (Valid.ascii (escOne_ascii (by rw [of_nat (by omega)]; exact h1))).append ih
    · by_cases h160 : c = 160
      · subst h160
        rw [show encF 160 = [194, 160] from by decide, List.cons_append, List.singleton_append, escG_nb]
        exact (Valid.ascii (by decide)).append ih
      · rw [h2, List.cons_append, escG, if_neg (fun e => h160 (h6 e.1 (by
          cases t with
          | nil => exact absurd rfl h5
          | cons y t => simpa using e.2))), escOne_high (by omega), escG_mid _ t h4, List.singleton_append, ← List.cons_append, ← h2]
        exact (Valid.char hc).append ih
theorem valid_escS (attr : Bool) {s : Str} (h : Valid s) : Valid (escS attr s) := by
  obtain ⟨cs, h1, rfl⟩ := h
  exact valid_escG attr cs h1
end Go.Proofs.YtcgkenmgglediaaDoor
