/-
  References: what can't be told yet is known; where none stands nothing is changed; what is written is read as it was. Plain Lean, no Go. (Layer 12.) No conditions beyond those that each lemma types.
-/
import Derived.Test.YtbabcohidpcjjaaRefsNames
namespace Go.Proofs.Ytbabcohidpcjjaa
open Mem

/-! digits -/
theorem digsF_le (b : Nat) : ∀ (k : Nat) (s : Str) (v : Nat), (digsF b k s v).1 ≤ s.length ∧ (digsF b k s v).1 ≤ k
  | 0, _, _ => ⟨Nat.zero_le _, Nat.zero_le _⟩
  | _ + 1, [], _ => ⟨Nat.zero_le _, Nat.zero_le _⟩
  | k + 1, c :: r, v => by
    unfold digsF
    cases digF b c with
    | none => exact ⟨Nat.zero_le _, Nat.zero_le _⟩
    | some d =>
      have := digsF_le b k r (min (v * b + d) 0x110000)
      exact ⟨by simp only [List.length_cons]; omega, by simp only; omega⟩
theorem digsF_stays (b : Nat) (x : Str) : ∀ (k : Nat) (s : Str) (v : Nat), ((digsF b k s v).1 < s.length ∨ (∀ c, x.head? = some c → digF b c = none)) → digsF b k (s ++ x) v = digsF b k s v
  | 0, s, v, _ => by cases s <;> rfl
  | k + 1, [], v, h => by
    rcases h with h | h
    · simp at h
    · cases x with
      | nil => rfl
      | cons c r =>
        have := h c rfl
        simp [digsF, this]
  | k + 1, c :: r, v, h => by
    rw [List.cons_append]
    unfold digsF at h ⊢
    cases hd : digF b c with
    | none => rfl
    | some d =>
      rw [hd] at h
      have := digsF_stays b x k r (min (v * b + d) 0x110000) (h.imp (fun h => by simp only [List.length_cons] at h; omega) id)
      simp only [this]
theorem headN_le (s : Str) : headN s ≤ s.length ∧ headN s ≤ 1 := by
  unfold headN xB
  cases s with
  | nil => simp
  | cons c r => simp only [List.length_cons]; split <;> omega
theorem numN_le (s : Str) : numN s ≤ s.length := by
  have h1 := headN_le s
  have h2 := digsF_le (baseN s) 16 (s.drop (headN s)) 0
  unfold numN numG
  rw [List.length_drop] at h2
  omega
theorem head_stays {s x : Str} (h : s ≠ [] ∨ xB x = false) : xB (s ++ x) = xB s := by
  cases s with
  | nil => simpa [xB] using h
  | cons c r => rfl
theorem numG_stays {s x : Str} (h : numN s < s.length ∨ (xB x = false ∧ ∀ c, x.head? = some c → digF 10 c = none ∧ digF 16 c = none)) : headN (s ++ x) = headN s ∧ baseN (s ++ x) = baseN s ∧ numG (s ++ x) = numG s := by
  have hx : xB (s ++ x) = xB s := head_stays (h.imp (fun h e => by subst e; simp at h) fun h => h.1)
  have h1 : headN (s ++ x) = headN s := by unfold headN; rw [hx]
  have h2 : baseN (s ++ x) = baseN s := by unfold baseN; rw [hx]
  refine ⟨h1, h2, ?_⟩
  have hl := headN_le s
  unfold numG
  rw [h1, h2, List.drop_append_of_le_length hl.1]
  refine digsF_stays _ _ _ _ _ ?_
  refine h.imp (fun h => ?_) fun h c hc => ?_
  · unfold numN numG at h
    rw [List.length_drop]
    omega
  · have := h.2 c hc
    unfold baseN
    split
    · exact this.2
    · exact this.1
theorem takeNum_le (r : Str) : (takeNum r).2 ≤ r.length + 2 := by
  have h := numN_le r
  unfold takeNum
  split
  · exact Nat.zero_le _
  · simp only
    split
    · rename_i h'
      have : r.drop (numN r) ≠ [] := by intro e; rw [e] at h'; simp at h'
      have : numN r < r.length := by
        rcases Nat.lt_or_ge (numN r) r.length with h2 | h2
        · exact h2
        · exact absurd (List.drop_of_length_le h2) this
      omega
    · omega
theorem drop_head {s x : Str} {n : Nat} (h : n < s.length) : ((s ++ x).drop n).head? = (s.drop n).head? := by
  rw [List.drop_append_of_le_length (by omega)]
  cases hd : s.drop n with
  | nil => have := congrArg List.length hd; simp at this; omega
  | cons c r => rfl
theorem takeNum_stays {r x : Str} (h : numN r < r.length ∨ (xB x = false ∧ (∀ c, x.head? = some c → digF 10 c = none ∧ digF 16 c = none) ∧ x.head? ≠ some 59)) : takeNum (r ++ x) = takeNum r := by
  obtain ⟨h1, h2, h3⟩ := numG_stays (s := r) (x := x) (h.imp id fun h => ⟨h.1, h.2.1⟩)
  have hn : numN (r ++ x) = numN r := by unfold numN; rw [h1, h3]
  unfold takeNum
  rw [h3, hn]
  have hc : (((r ++ x).drop (numN r)).head? = some 59) ↔ ((r.drop (numN r)).head? = some 59) := by
    rcases Nat.lt_or_ge (numN r) r.length with hl | hl
    · rw [drop_head hl]
    · rcases h with h | h
      · omega
      · have hle := numN_le r
        have he : numN r = r.length := by omega
        rw [he, List.drop_left, List.drop_length]
        simp [h.2.2]
  simp only [hc]

/-! names -/
theorem keys_names : ∀ k ∈ keys, ∃ p ∈ bareT ++ boundT, k.1 = p.1 ∨ k.1 = p.1 ++ [59] := by
  intro k hk
  unfold keys at hk
  rcases List.mem_append.1 hk with hk | hk
  · rcases List.mem_append.1 hk with hk | hk
    · exact ⟨k, List.mem_append_left _ hk, .inl rfl⟩
    · obtain ⟨p, hp, rfl⟩ := List.mem_map.1 hk
      exact ⟨p, List.mem_append_left _ hp, .inr rfl⟩
  · obtain ⟨p, hp, rfl⟩ := List.mem_map.1 hk
    exact ⟨p, List.mem_append_right _ hp, .inr rfl⟩
theorem begins_of {p : Str × Str} (hp : p ∈ bareT ++ boundT) {r : Str} (h : r <+: p.1) : beginsF r = true := by
  unfold beginsF
  exact List.any_eq_true.2 ⟨p, hp, List.isPrefixOf_iff_prefix.2 h⟩
/-- a text that begins no name stays as it is -/
theorem keys_stay {r x : Str} (hb : beginsF r = false) : ∀ k ∈ keys, k.1 <+: r ++ x → k.1 <+: r := by
  intro k hk hp
  rcases Nat.lt_or_ge r.length k.1.length with hl | hl
  · exfalso
    have h1 : r <+: k.1 := List.prefix_of_prefix_length_le (List.prefix_append _ _) hp (by omega)
    obtain ⟨p, hp', he⟩ := keys_names k hk
    have h2 : r <+: p.1 := by
      rcases he with he | he
      · rw [← he]; exact h1
      · refine List.prefix_of_prefix_length_le h1 ?_ ?_
        · rw [he]; exact List.prefix_append _ _
        · rw [he] at hl; simp at hl; omega
    rw [begins_of hp' h2] at hb
    cases hb
  · exact List.prefix_of_prefix_length_le hp (List.prefix_append _ _) hl
theorem refused_stays {r x : Str} {attr : Bool} (hf : findF (r ++ x) = findF r)
    (h : (findF r).2 = r.length → 0 < r.length → (r.getLast? = some 59 ∨ ((x.head?).map wordB).getD false = false)) : refused (r ++ x) attr = refused r attr := by
  have hle := findF_le r
  unfold refused
  rw [hf, List.take_append_of_le_length hle]
  rcases Nat.lt_or_ge (findF r).2 r.length with hl | hl
  · rw [drop_head hl]
  · have he : (findF r).2 = r.length := by omega
    rw [he, List.drop_left, List.drop_length, List.take_length]
    rcases Nat.eq_zero_or_pos r.length with h0 | h0
    · simp [h0]
    · rcases h he h0 with h | h <;> simp [h]
theorem takeName_le (r : Str) (attr : Bool) : (takeName r attr).2 ≤ r.length + 1 := by
  have := findF_le r
  unfold takeName
  split
  · exact Nat.zero_le _
  · simp only; omega
theorem takeName_stays {r x : Str} {attr : Bool} (hf : findF (r ++ x) = findF r)
    (h : (findF r).2 = r.length → 0 < r.length → (r.getLast? = some 59 ∨ ((x.head?).map wordB).getD false = false)) : takeName (r ++ x) attr = takeName r attr := by
  unfold takeName
  rw [hf, refused_stays hf h]

/-! references -/
theorem takeF_hash (r : Str) (attr : Bool) : takeF (38 :: 35 :: r) attr = takeNum r := by simp [takeF]
theorem takeF_amp {r : Str} (h : r.head? ≠ some 35) (attr : Bool) : takeF (38 :: r) attr = takeName r attr := by
  cases r with
  | nil => simp [takeF]
  | cons c r =>
    have hc : ¬ 35 = c := fun e => h (by simp [e])
    simp [takeF, hc]
theorem takeF_other {c : UInt8} {r : Str} (h : c ≠ 38) (attr : Bool) : takeF (c :: r) attr = ([], 0) := by
  have hc : ¬ 38 = c := fun e => h e.symm
  simp [takeF, hc]
theorem takeF_nil (attr : Bool) : takeF [] attr = ([], 0) := by simp [takeF]
theorem moreF_hash (r : Str) : moreF (38 :: 35 :: r) = (numN r == r.length) := by simp [moreF]
theorem moreF_amp {r : Str} (h : r.head? ≠ some 35) : moreF (38 :: r) = beginsF r := by
  cases r with
  | nil => simp [moreF]
  | cons c r =>
    have hc : ¬ 35 = c := fun e => h (by simp [e])
    simp [moreF, hc]
/-- what a text begins with -/
theorem amp_cases (s : Str) : (∃ r, s = 38 :: 35 :: r) ∨ (∃ r, s = 38 :: r ∧ r.head? ≠ some 35) ∨ (∃ c r, s = c :: r ∧ c ≠ 38) ∨ s = [] := by
  cases s with
  | nil => exact .inr (.inr (.inr rfl))
  | cons c r =>
    by_cases hc : c = 38
    · subst hc
      cases r with
      | nil => exact .inr (.inl ⟨[], rfl, by simp⟩)
      | cons d r =>
        by_cases hd : d = 35
        · subst hd; exact .inl ⟨r, rfl⟩
        · exact .inr (.inl ⟨d :: r, rfl, by simpa using hd⟩)
    · exact .inr (.inr (.inl ⟨c, r, rfl, hc⟩))
theorem takeF_le (s : Str) (attr : Bool) : (takeF s attr).2 ≤ s.length := by
  rcases amp_cases s with ⟨r, rfl⟩ | ⟨r, rfl, h⟩ | ⟨c, r, rfl, h⟩ | rfl
  · rw [takeF_hash]; have := takeNum_le r; simp only [List.length_cons]; omega
  · rw [takeF_amp h]; have := takeName_le r attr; simp only [List.length_cons]; omega
  · rw [takeF_other h]; exact Nat.zero_le _
  · rw [takeF_nil]; exact Nat.zero_le _

/-- where no more can be told, what is behind changes nothing -/
theorem takeF_more {s : Str} (x : Str) (attr : Bool) (hs : s ≠ []) (h : moreF s = false) : takeF (s ++ x) attr = takeF s attr := by
  rcases amp_cases s with ⟨r, rfl⟩ | ⟨r, rfl, hr⟩ | ⟨c, r, rfl, hc⟩ | rfl
  · rw [moreF_hash] at h
    have hne : numN r ≠ r.length := by simpa using h
    have hle := numN_le r
    rw [List.cons_append, List.cons_append, takeF_hash, takeF_hash]
    exact takeNum_stays (.inl (by omega))
  · rw [moreF_amp hr] at h
    have hr' : (r ++ x).head? ≠ some 35 := by
      cases r with
      | nil => exact absurd h (by decide +kernel)
      | cons c r => simpa using hr
    rw [List.cons_append, takeF_amp hr', takeF_amp hr]
    refine takeName_stays (findF_append r x (keys_stay h)) fun he h0 => .inl ?_
    rcases (findF_spec r).1 with ⟨h1, _⟩ | ⟨_, _, hk⟩
    · omega
    · rw [he, List.take_length] at hk
      obtain ⟨p, hp, hpe⟩ := keys_names _ hk
      rcases hpe with hpe | hpe
      · have := begins_of hp (r := r) (by rw [← hpe]; exact List.prefix_rfl)
        rw [this] at h; cases h
      · simp only at hpe
        rw [hpe]; simp
  · rw [List.cons_append, takeF_other hc, takeF_other hc]
  · exact absurd rfl hs

/-- < goes on no reference -/
theorem takeF_stop (s x : Str) (attr : Bool) : takeF (s ++ 60 :: x) attr = takeF s attr := by
  rcases amp_cases s with ⟨r, rfl⟩ | ⟨r, rfl, hr⟩ | ⟨c, r, rfl, hc⟩ | rfl
  · rw [List.cons_append, List.cons_append, takeF_hash, takeF_hash]
    refine takeNum_stays (.inr ⟨rfl, fun c hc => ?_, by simp⟩)
    obtain rfl : 60 = c := by simpa using hc
    exact ⟨by decide, by decide⟩
  · have hr' : (r ++ 60 :: x).head? ≠ some 35 := by
      cases r with
      | nil => simp
      | cons c r => simpa using hr
    rw [List.cons_append, takeF_amp hr', takeF_amp hr]
    have hk : ∀ k ∈ keys, (60 : UInt8) ∉ k.1 := by decide +kernel
    refine takeName_stays (findF_append r _ fun k hk' hp => prefix_stop (hk k hk') hp) fun _ _ => .inr ?_
    show (some (wordB 60)).getD false = false
    decide
  · rw [List.cons_append, takeF_other hc, takeF_other hc]
  · rw [List.nil_append, takeF_other (by decide), takeF_nil]

/-! all of a text -/
theorem allF_fuel (attr : Bool) : ∀ (n : Nat) (s : Str) (k : Nat), s.length ≤ n → s.length ≤ k → allF attr k s = allS s attr := by
  intro n
  induction n with
  | zero =>
    intro s k hs hk
    have : s = [] := List.eq_nil_of_length_eq_zero (by omega)
    subst this
    cases k <;> rfl
  | succ n ih =>
    intro s k hs hk
    cases s with
    | nil => cases k <;> rfl
    | cons c r =>
      cases k with
      | zero => simp at hk
      | succ k =>
        simp only [List.length_cons] at hs hk
        unfold allS
        simp only [List.length_cons, allF]
        by_cases h : c = 38 ∧ (takeF (c :: r) attr).2 ≠ 0
        · rw [if_pos h, if_pos h]
          have hl : ((c :: r).drop (takeF (c :: r) attr).2).length ≤ r.length := by
            rw [List.length_drop, List.length_cons]; have := h.2; omega
          rw [ih _ k (by omega) (by omega), ih _ r.length (by omega) hl]
        · rw [if_neg h, if_neg h, ih r k (by omega) (by omega), ih r r.length (by omega) (Nat.le_refl _)]
theorem allS_nil (attr : Bool) : allS [] attr = [] := rfl
theorem allS_cons (c : UInt8) (r : Str) (attr : Bool) : allS (c :: r) attr = if c = 38 ∧ (takeF (c :: r) attr).2 ≠ 0 then (takeF (c :: r) attr).1 ++ allS ((c :: r).drop (takeF (c :: r) attr).2) attr else c :: allS r attr := by
  rw [allS, List.length_cons, allF]
  by_cases h : c = 38 ∧ (takeF (c :: r) attr).2 ≠ 0
  · rw [if_pos h, if_pos h]
    have hl : ((c :: r).drop (takeF (c :: r) attr).2).length ≤ r.length := by
      rw [List.length_drop, List.length_cons]; have := h.2; omega
    rw [allF_fuel attr _ _ _ (Nat.le_refl _) hl]
  · rw [if_neg h, if_neg h, allF_fuel attr _ _ _ (Nat.le_refl _) (Nat.le_refl _)]
theorem allS_other {c : UInt8} {r : Str} {attr : Bool} (h : c ≠ 38) : allS (c :: r) attr = c :: allS r attr := by
  rw [allS_cons, if_neg fun h' => h h'.1]
/-- a text without & -/
theorem allS_plain (attr : Bool) : ∀ s : Str, (∀ c ∈ s, c ≠ 38) → allS s attr = s
  | [], _ => rfl
  | c :: r, h => by rw [allS_other (h c List.mem_cons_self), allS_plain attr r fun d hd => h d (List.mem_cons_of_mem _ hd)]
/-- a text before < and one behind it -/
theorem allS_two (attr : Bool) (b : Str) : ∀ (n : Nat) (a : Str), a.length ≤ n → allS (a ++ 60 :: b) attr = allS a attr ++ 60 :: allS b attr := by
  intro n
  induction n with
  | zero =>
    intro a ha
    have : a = [] := List.eq_nil_of_length_eq_zero (by omega)
    subst this
    rw [List.nil_append, allS_other (by decide)]; rfl
  | succ n ih =>
    intro a ha
    cases a with
    | nil => rw [List.nil_append, allS_other (by decide)]; rfl
    | cons c r =>
      simp only [List.length_cons] at ha
      have hs := takeF_stop (c :: r) b attr
      have hle := takeF_le (c :: r) attr
      rw [List.cons_append] at hs
      rw [List.cons_append, allS_cons, allS_cons c r, hs]
      by_cases h : c = 38 ∧ (takeF (c :: r) attr).2 ≠ 0
      · rw [if_pos h, if_pos h, List.append_assoc, ← List.cons_append, List.drop_append_of_le_length hle, ih]
        rw [List.length_drop, List.length_cons]; have := h.2; omega
      · rw [if_neg h, if_neg h, ih r (by omega), List.cons_append]

/-! what is written -/
theorem allS_name {k : Str × Str} (hk : k ∈ keys) (hs : k.1.getLast? = some 59) (x : Str) (attr : Bool) : allS (38 :: (k.1 ++ x)) attr = k.2 ++ allS x attr := by
  have h35 : ∀ k ∈ keys, k.1.head? ≠ some 35 ∧ k.1 ≠ [] := by decide +kernel
  obtain ⟨g1, g2⟩ := h35 k hk
  have hf := findF_semi hk hs x
  have hr : refused (k.1 ++ x) attr = false := by
    unfold refused
    rw [hf]
    have h1 := (keys_hit k hk).2.2.1
    have h2 : (k.1.length == 0) = false := by simp; exact g2
    simp only [List.take_left, hs, h2]
    simp
  have hh : (k.1 ++ x).head? ≠ some 35 := by
    cases hk1 : k.1 with
    | nil => exact absurd hk1 g2
    | cons c r => rw [hk1] at g1; simpa using g1
  have ht : takeF (38 :: (k.1 ++ x)) attr = (k.2, k.1.length + 1) := by rw [takeF_amp hh, takeName, hr, hf]; rfl
  rw [allS_cons, ht]
  simp
theorem allS_escG (attr other : Bool) : ∀ (s : Str) (skip : Bool), allS (escG attr skip s) other = if skip then s.drop 1 else s
  | [], skip => by cases skip <;> rfl
  | c :: r, true => by
    rw [escG, allS_escG attr other r false]
    rfl
  | c :: r, false => by
    rw [escG]
    by_cases h : c = 194 ∧ r.head? = some 160
    · rw [if_pos h]
      have := allS_name (k := ([110, 98, 115, 112, 59], [194, 160])) (by decide +kernel) (by decide) (escG attr true r) other
      rw [show ([38, 110, 98, 115, 112, 59] : Str) ++ escG attr true r = 38 :: (([110, 98, 115, 112, 59], ([194, 160] : Str)).1 ++ escG attr true r) from rfl, this, allS_escG attr other r true]
      obtain ⟨rfl, hr⟩ := h
      cases r with
      | nil => simp at hr
      | cons d r =>
        obtain rfl : d = 160 := by simpa using hr
        rfl
    · rw [if_neg h]
      unfold escOne
      split
      · rename_i hc
        have := allS_name (k := ([97, 109, 112, 59], [38])) (by decide +kernel) (by decide) (escG attr false r) other
        rw [show ([38, 97, 109, 112, 59] : Str) ++ escG attr false r = 38 :: (([97, 109, 112, 59], ([38] : Str)).1 ++ escG attr false r) from rfl, this, allS_escG attr other r false, hc]
        rfl
      · split
        · rename_i hc
          have := allS_name (k := ([108, 116, 59], [60])) (by decide +kernel) (by decide) (escG attr false r) other
          rw [show ([38, 108, 116, 59] : Str) ++ escG attr false r = 38 :: (([108, 116, 59], ([60] : Str)).1 ++ escG attr false r) from rfl, this, allS_escG attr other r false, hc]
          rfl
        · split
          · rename_i hc
            have := allS_name (k := ([103, 116, 59], [62])) (by decide +kernel) (by decide) (escG attr false r) other
            rw [show ([38, 103, 116, 59] : Str) ++ escG attr false r = 38 :: (([103, 116, 59], ([62] : Str)).1 ++ escG attr false r) from rfl, this, allS_escG attr other r false, hc]
            rfl
          · split
            · rename_i hc
              have := allS_name (k := ([113, 117, 111, 116, 59], [34])) (by decide +kernel) (by decide) (escG attr false r) other
              rw [show ([38, 113, 117, 111, 116, 59] : Str) ++ escG attr false r = 38 :: (([113, 117, 111, 116, 59], ([34] : Str)).1 ++ escG attr false r) from rfl, this, allS_escG attr other r false, hc.1]
              rfl
            · rename_i hc _ _ _
              rw [List.singleton_append, allS_other hc, allS_escG attr other r false]
              rfl
theorem allS_escS (s : Str) (attr other : Bool) : allS (escS attr s) other = s := by
  rw [escS, allS_escG]; rfl
/-- no bare sign is in what is written -/
theorem escG_signs (attr : Bool) : ∀ (s : Str) (skip : Bool), ∀ c ∈ escG attr skip s, c ≠ 60 ∧ c ≠ 62 ∧ (attr = true → c ≠ 34)
  | [], skip, c, h => by cases skip <;> cases h
  | d :: r, true, c, h => escG_signs attr r false c (by rwa [escG] at h)
  | d :: r, false, c, h => by
    rw [escG] at h
    by_cases hd : d = 194 ∧ r.head? = some 160
    · rw [if_pos hd] at h
      rcases List.mem_append.1 h with h | h
      · have : ∀ c ∈ ([38, 110, 98, 115, 112, 59] : Str), c ≠ 60 ∧ c ≠ 62 ∧ (attr = true → c ≠ 34) := by cases attr <;> decide
        exact this c h
      · exact escG_signs attr r true c h
    · rw [if_neg hd] at h
      rcases List.mem_append.1 h with h | h
      · unfold escOne at h
        split at h
        · have : ∀ c ∈ ([38, 97, 109, 112, 59] : Str), c ≠ 60 ∧ c ≠ 62 ∧ (attr = true → c ≠ 34) := by cases attr <;> decide
          exact this c h
        · split at h
          · have : ∀ c ∈ ([38, 108, 116, 59] : Str), c ≠ 60 ∧ c ≠ 62 ∧ (attr = true → c ≠ 34) := by cases attr <;> decide
            exact this c h
          · split at h
            · have : ∀ c ∈ ([38, 103, 116, 59] : Str), c ≠ 60 ∧ c ≠ 62 ∧ (attr = true → c ≠ 34) := by cases attr <;> decide
              exact this c h
            · split at h
              · have : ∀ c ∈ ([38, 113, 117, 111, 116, 59] : Str), c ≠ 60 ∧ c ≠ 62 ∧ (attr = true → c ≠ 34) := by cases attr <;> decide
                exact this c h
              · rename_i _ h60 h62 h34
                obtain rfl : c = d := by simpa using h
                exact ⟨h60, h62, fun ha e => h34 ⟨e, ha⟩⟩
      · exact escG_signs attr r false c h
theorem escOne_len (attr : Bool) (c : UInt8) : (escOne attr c).length ≤ 6 := by
  unfold escOne
  split
  · decide
  · split
    · decide
    · split
      · decide
      · split
        · decide
        · simp
theorem escG_len (attr : Bool) : ∀ (s : Str) (skip : Bool), (escG attr skip s).length ≤ 6 * s.length
  | [], skip => by cases skip <;> simp [escG]
  | d :: r, true => by
    have := escG_len attr r false
    rw [escG]; simp only [List.length_cons]; omega
  | d :: r, false => by
    have h1 := escG_len attr r false
    have h2 := escG_len attr r true
    have h3 := escOne_len attr d
    rw [escG]
    split <;> simp only [List.length_append, List.length_cons, List.length_nil] <;> omega
end Go.Proofs.Ytbabcohidpcjjaa
