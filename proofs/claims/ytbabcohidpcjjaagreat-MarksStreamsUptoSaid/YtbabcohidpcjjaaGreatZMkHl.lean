import Derived.Test.YtbabcohidpcjjaaGreatZPl
import Derived.Test.YtbabcohidpcjjaaGreatZMkEv
/-
  What a stream holds, when it has told all that is certain, is short: plain Lean. (Seat 4's '.Z'.)
-/
namespace Go.Proofs.YtbabcohidpcjjaaGreat
open Mem

theorem numN_few (s : Str) : numN s ≤ 17 := by
  have h1 : (numG s).1 ≤ 16 := (digsF_le _ 16 _ _).2
  have h2 : headN s ≤ 1 := by unfold headN; split <;> omega
  unfold numN
  omega
theorem names_few : ∀ p ∈ bareT ++ boundT, p.1.length ≤ 64 := by decide +kernel
theorem more_few {s : Str} (h : moreF s = true) : s.length ≤ 65 := by
  unfold moreF at h
  split at h
  · have h1 := beq_iff_eq.1 h
    have h2 := numN_few (s.drop 2)
    rw [List.length_drop] at h1
    omega
  · split at h
    · unfold beginsF at h
      obtain ⟨p, hp, h1⟩ := List.any_eq_true.1 h
      have h2 := (List.isPrefixOf_iff_prefix.1 h1).length_le
      have h3 := names_few p hp
      rw [List.length_drop] at h2
      omega
    · cases h
theorem folds_wait {s w : Str} (h : (foldsF s w).2 = true) : s.length < w.length := by
  unfold foldsF at h
  split at h
  · cases h
  · have := of_decide_eq_true h
    omega
theorem ends_wait {m : MkM} {s : Str} (h : endsF m s = 1) : s.length ≤ m.name.length + 2 := by
  unfold endsF at h
  split at h
  · rename_i hh
    rcases hh with hh | ⟨-, hh⟩
    · have := folds_wait hh
      simp only [List.length_append, List.length_cons, List.length_nil] at this
      omega
    · omega
  · split at h
    · exact absurd h (by decide)
    · exact absurd h (by decide)
theorem decl_wait {m : MkM} {s : Str} (h : declF m s = 1) : s.length ≤ 9 := by
  unfold declF at h
  split at h
  · exact absurd h (by decide)
  · split at h
    · exact absurd h (by decide)
    · split at h
      · exact absurd h (by decide)
      · split at h
        · rename_i hh
          rcases hh with hh | hh | ⟨hh, -⟩
          · have := folds_wait hh
            have e : comW.length = 4 := rfl
            omega
          · have := folds_wait hh
            have e : docW.length = 9 := rfl
            omega
          · have := (List.isPrefixOf_iff_prefix.1 hh).length_le
            have e : cdataW.length = 9 := rfl
            omega
        · exact absurd h (by decide)
theorem look_wait {m : MkM} {s : Str} (hn : m.name.length ≤ 100) (h : lookF m s = 1) : s.length ≤ 102 := by
  unfold lookF at h
  split at h
  · have := ends_wait h
    omega
  · split at h
    · rename_i a c r
      split at h
      · exact absurd h (by decide)
      · split at h
        · exact absurd h (by decide)
        · split at h
          · have := decl_wait h
            omega
          · split at h
            · exact absurd h (by decide)
            · split at h
              · simp
              · split at h
                · exact absurd h (by decide)
                · split at h
                  · exact absurd h (by decide)
                  · exact absurd h (by decide)
    · rename_i hh
      match s with
      | [] => simp
      | [_] => simp
      | a :: c :: r => exact absurd rfl (hh a c r)
theorem look_range (m : MkM) (s : Str) : lookF m s = 0 ∨ lookF m s = 1 ∨ lookF m s = 2 ∨ lookF m s = 3 ∨ lookF m s = 4 ∨ lookF m s = 5 ∨ lookF m s = 6 ∨ lookF m s = 7 ∨ lookF m s = 8 := by
  unfold lookF endsF declF unlessF
  repeat' split
  all_goals simp
/-- a text that stops where nothing stands holds little -/
theorem text_short {m : MkM} (hn : m.name.length ≤ 100) : ∀ (n : Nat) (s : Str), s.length ≤ n → ((textF m s).2.2 ≤ 1 ∨ 8 < (textF m s).2.2) → (textF m s).2.1.length ≤ 200 := by
  intro n
  induction n with
  | zero =>
    intro s hs _
    obtain rfl : s = [] := List.eq_nil_of_length_eq_zero (by omega)
    rw [textF]
    exact Nat.zero_le _
  | succ n ih =>
    intro s hs
    cases s with
    | nil => intro _; rw [textF]; exact Nat.zero_le _
    | cons c r =>
      simp only [List.length_cons] at hs
      rw [textF]
      split
      · split
        · exact ih r (by omega)
        · intro h
          rename_i hz
          have hr := look_range m (c :: r)
          have h1 : lookF m (c :: r) = 1 := by
            simp only at h
            omega
          have := look_wait hn h1
          simp only
          omega
      · split
        · split
          · rename_i hm
            intro _
            have := more_few hm.2
            simp only
            omega
          · exact ih _ (by rw [List.length_drop]; omega)
        · exact ih r (by omega)
theorem tag_short {m : MkM} {e : Bool} (ht : (tagF m e).2.1 = false) : (tagF m e).2.2.2.buf.length ≤ 2048 := by
  unfold tagF at ht ⊢
  simp only at ht ⊢
  obtain ⟨er, her⟩ : ∃ er, er = if (parseF (m.buf.take 2049) e).2.1 > 2048 ∨ ((parseF (m.buf.take 2049) e).2.1 < 0 ∧ 2048 < (m.buf.take 2049).length) then (41 : Int) else (parseF (m.buf.take 2049) e).2.2 := ⟨_, rfl⟩
  rw [← her] at ht ⊢
  by_cases h0 : er ≠ 0
  · rw [if_pos h0]
    exact Nat.zero_le _
  · rw [if_neg h0] at ht ⊢
    by_cases hp : (parseF (m.buf.take 2049) e).2.1 < 0
    · rw [if_pos hp]
      have hc : ¬ ((parseF (m.buf.take 2049) e).2.1 > 2048 ∨ ((parseF (m.buf.take 2049) e).2.1 < 0 ∧ 2048 < (m.buf.take 2049).length)) := fun hh => by
        rw [if_pos hh] at her
        exact h0 (by rw [her]; decide)
      have hl : (m.buf.take 2049).length ≤ 2048 := by
        by_cases hh : 2048 < (m.buf.take 2049).length
        · exact absurd (.inr ⟨hp, hh⟩) hc
        · omega
      rw [List.length_take] at hl
      show (if m.closed = true then { m with buf := [] } else m).buf.length ≤ 2048
      split
      · exact Nat.zero_le _
      · omega
    · rw [if_neg hp] at ht
      cases ht
theorem com_later_short {m : MkM} (ht : (comLater m).2.1 = false) : (comLater m).2.2.2.buf.length ≤ 2048 := by
  unfold comLater at ht ⊢
  simp only at ht ⊢
  split
  · rename_i h; rw [if_pos h] at ht; cases ht
  · rename_i h
    rw [if_neg h] at ht
    split
    · rename_i h2; rw [if_pos h2] at ht; cases ht
    · rename_i h2
      rw [if_neg h2] at ht
      split
      · rename_i h3; rw [if_pos h3] at ht; cases ht
      · show (m.buf.drop (m.buf.length - 3)).length ≤ 2048
        rw [List.length_drop]
        omega
theorem com_short {m : MkM} (ht : (comF m).2.1 = false) : (comF m).2.2.2.buf.length ≤ 2048 := by
  unfold comF at ht ⊢
  split
  · rename_i h
    rw [if_pos h] at ht
    split
    · rename_i h2; rw [if_pos h2] at ht; cases ht
    · rename_i h2
      rw [if_neg h2] at ht
      split
      · rename_i h3; rw [if_pos h3] at ht; cases ht
      · rename_i h3
        rw [if_neg h3] at ht
        split
        · rename_i h4
          show m.buf.length ≤ 2048
          rcases h4.2 with h | h <;> rw [h] <;> simp
        · rename_i h4
          rw [if_neg h4] at ht
          exact com_later_short ht
  · rename_i h
    rw [if_neg h] at ht
    exact com_later_short ht
theorem cd_short {m : MkM} (hc : m.closed = false) (hs : (cdF m).2.2.1 = true) : (cdF m).2.2.2.buf.length ≤ 2048 := by
  unfold cdF at hs ⊢
  simp only [hc, Bool.false_eq_true, if_false] at hs ⊢
  split
  · rename_i h; rw [if_pos h] at hs; cases hs
  · show (m.buf.drop (m.buf.length - 2)).length ≤ 2048
    rw [List.length_drop]
    omega
/-- where an open machine stops, little is held -/
theorem stop_short {m : MkM} (hc : m.closed = false) (hn : m.name.length ≤ 100) (ht : (oneF m).2.1 = false) (hs : (oneF m).2.2.1 = true) : (oneF m).2.2.2.buf.length ≤ 2048 := by
  unfold oneF at ht hs ⊢
  split
  · rename_i hp
    rw [if_pos hp] at ht hs
    have hts := text_short hn _ m.buf (Nat.le_refl _)
    unfold stepF at ht hs ⊢
    simp only at ht hs ⊢
    generalize textF m m.buf = p at *
    by_cases h1 : p.1 ≠ []
    · rw [if_pos h1] at ht; cases ht
    rw [if_neg h1] at ht hs ⊢
    by_cases h2 : p.2.2 = 2
    · rw [if_pos h2] at ht hs ⊢
      exact tag_short ht
    rw [if_neg h2] at ht hs ⊢
    by_cases h3 : p.2.2 = 3
    · rw [if_pos h3] at ht hs ⊢
      exact tag_short ht
    rw [if_neg h3] at ht hs ⊢
    by_cases h4 : p.2.2 = 4
    · rw [if_pos h4] at hs; cases hs
    rw [if_neg h4] at ht hs ⊢
    by_cases h5 : p.2.2 = 5
    · rw [if_pos h5] at hs; cases hs
    rw [if_neg h5] at ht hs ⊢
    by_cases h6 : p.2.2 = 6
    · rw [if_pos h6] at hs; cases hs
    rw [if_neg h6] at ht hs ⊢
    by_cases h7 : p.2.2 = 7
    · rw [if_pos h7] at hs; cases hs
    rw [if_neg h7] at ht hs ⊢
    by_cases h8 : p.2.2 = 8
    · rw [if_pos h8] at hs; cases hs
    rw [if_neg h8]
    have := hts (by omega)
    show p.2.1.length ≤ 2048
    omega
  · rename_i hp
    rw [if_neg hp] at ht hs
    unfold passF at ht hs ⊢
    by_cases h1 : m.pass = 1
    · rw [if_pos h1] at ht ⊢
      exact com_short ht
    rw [if_neg h1] at ht hs ⊢
    by_cases h2 : m.pass = 2
    · rw [if_pos h2] at ht hs ⊢
      by_cases h3 : 0 ≤ Lib.indexByte m.buf 62
      · rw [if_pos h3] at ht; cases ht
      rw [if_neg h3] at ht hs ⊢
      rw [hc]
      exact Nat.zero_le _
    · rw [if_neg h2] at ht hs ⊢
      exact cd_short hc hs
theorem tag_stops (m : MkM) (e : Bool) : (tagF m e).2.1 = true ∨ (tagF m e).2.2.1 = true := by
  unfold tagF
  simp only
  generalize (if (parseF (m.buf.take 2049) e).2.1 > 2048 ∨ ((parseF (m.buf.take 2049) e).2.1 < 0 ∧ 2048 < (m.buf.take 2049).length) then (41 : Int) else (parseF (m.buf.take 2049) e).2.2) = er
  by_cases h0 : er ≠ 0
  · rw [if_pos h0]
    exact .inr rfl
  · rw [if_neg h0]
    by_cases hp : (parseF (m.buf.take 2049) e).2.1 < 0
    · rw [if_pos hp]
      exact .inr rfl
    · rw [if_neg hp]
      exact .inl rfl
theorem go_err {m : MkM} (ht : (oneF m).2.1 = false) (hs : (oneF m).2.2.1 = false) : (oneF m).2.2.2.err = m.err := by
  unfold oneF at ht hs ⊢
  split
  · rename_i h0
    rw [if_pos h0] at ht hs
    unfold stepF at ht hs ⊢
    simp only at ht hs ⊢
    generalize textF m m.buf = p at *
    by_cases h1 : p.1 ≠ []
    · rw [if_pos h1]
    rw [if_neg h1] at ht hs ⊢
    by_cases h2 : p.2.2 = 2
    · rw [if_pos h2] at ht hs
      rcases tag_stops { m with buf := p.2.1 } false with h | h
      · rw [ht] at h; cases h
      · rw [hs] at h; cases h
    rw [if_neg h2] at ht hs ⊢
    by_cases h3 : p.2.2 = 3
    · rw [if_pos h3] at ht hs
      rcases tag_stops { m with buf := p.2.1 } true with h | h
      · rw [ht] at h; cases h
      · rw [hs] at h; cases h
    rw [if_neg h3]
    repeat' split
    all_goals rfl
  · exact (passF_err m).1
theorem set_name {m : MkM} {k : Int} {s : Str} (h : s.length ≤ 100) : (setF m k s).name.length ≤ 100 := by
  unfold setF
  split
  · exact h
  · exact Nat.zero_le _
theorem word_few : ∀ s ∈ refW ++ rawW, s.length ≤ 100 := by decide +kernel
theorem switch_few {m : MkM} {x : MarkD} (h : m.name.length ≤ 100) : (switchF m x).name.length ≤ 100 := by
  unfold switchF
  split
  · exact h
  · split
    · rename_i h2
      exact set_name (word_few _ (List.mem_append_left _ (List.contains_iff_mem.1 h2)))
    · split
      · rename_i h2
        exact set_name (word_few _ (List.mem_append_right _ (List.contains_iff_mem.1 h2)))
      · exact h
/-- an open stream that has told all that is certain: its name is short, and little is held -/
theorem drain_short : ∀ (n : Nat) (m : MkM), doM m ≤ n → m.closed = false → m.name.length ≤ 100 → (m.err ≠ 0 → m.buf.length ≤ 2048) → (drainF m).2.name.length ≤ 100 ∧ (drainF m).2.buf.length ≤ 2048 := by
  intro n
  induction n using Nat.strongRecOn with
  | _ n ih =>
    intro m hm hc hn hb
    by_cases he : m.err = 0
    · have hcl : (oneF m).2.2.2.closed = false := (one_closed m).trans hc
      have hnl : (oneF m).2.2.2.name.length ≤ 100 := by rw [(oneF_kept m).1]; exact hn
      cases ht : (oneF m).2.1
      · cases hs : (oneF m).2.2.1
        · have hl := one_less m (.inr hs)
          rw [drain_go he ht hs]
          exact ih _ (by omega) _ (Nat.le_refl _) hcl hnl fun h => absurd ((go_err ht hs).trans he) h
        · rw [drain_stop he ht hs]
          exact ⟨hnl, stop_short hc hn ht hs⟩
      · have hl := one_less m (.inl ht)
        rw [drain_told he ht]
        have hd := doM_switch (oneF m).2.2.2 (oneF m).1
        have hse : (switchF (oneF m).2.2.2 (oneF m).1).err = (oneF m).2.2.2.err := by
          unfold switchF setF
          repeat' split
          all_goals rfl
        exact ih _ (by omega) (switchF (oneF m).2.2.2 (oneF m).1) (Nat.le_refl _) ((switch_closed _ _).trans hcl) (switch_few hnl) fun h => absurd ((hse.trans (oneF_err ht).1).trans he) h
    · rw [drain_err he]
      exact ⟨hn, hb he⟩
/-! a stream so far, in k pieces -/
theorem Streamed.any' {t : Str} {al al' : List MarkD} {m : MkM} (h : Streamed t al m) (he : m.err ≠ 0) : Streamed t al' m :=
  ⟨⟨h.like.1, fun h0 => absurd (show m.err = 0 from h.like.1.symm.trans h0) he⟩, h.cr, h.open'⟩
theorem Streamed.err' {t : Str} {al : List MarkD} {m : MkM} (h : Streamed t al m) (he : m.err ≠ 0) (r : Str) : (marksF (t ++ r)).2 = m.err := by
  obtain ⟨h1, h2⟩ := (h.feed r).1 he
  have h3 := (h2 []).close.1
  have he2 : (drainF (feedF m r)).2.err ≠ 0 := by rw [h1]; exact he
  rw [drain_err (show ({ (drainF (feedF m r)).2 with closed := true } : MkM).err ≠ 0 from he2)] at h3
  rw [← h3]
  exact h1
theorem parseF_few9 (s : Str) (e : Bool) : (parseF s e).1.attrs.length ≤ 8 := by
  unfold parseF
  split
  · exact Nat.zero_le _
  · split
    · exact Nat.zero_le _
    · split
      · exact Nat.zero_le _
      · split
        · exact Nat.zero_le _
        · exact Nat.le_of_not_lt (by assumption)
theorem drainF_few9 (m : MkM) : ∀ x ∈ (drainF m).1, x.attrs.length ≤ 8 :=
  drainF_all (fun _ => Nat.zero_le _) (fun _ => Nat.zero_le _) (fun s e _ => parseF_few9 s e) _ m (Nat.le_refl _)
structure Pcz (d : Str) (al : List MarkD) (m : MkM) (k : Nat) : Prop where
  st : Streamed d al m
  held : m.buf.length ≤ 2048
  name : m.name.length ≤ 100
  cnt : al.length ≤ k * 4100 + 6 * d.length
  txt : tlen al ≤ k * 4100 + 6 * d.length
  few : ∀ x ∈ al, x.attrs.length ≤ 8
theorem Pcz.start : Pcz [] [] zeroM 0 := ⟨Streamed.start, Nat.zero_le _, Nat.zero_le _, Nat.zero_le _, Nat.zero_le _, fun _ h => by cases h⟩
theorem Pcz.feed {d : Str} {al : List MarkD} {m : MkM} {k : Nat} (h : Pcz d al m k) (p : Str) :
    ((drainF (feedF m p)).2.err ≠ 0 ∧ Pcz (d ++ p) al (drainF (feedF m p)).2 (k + 1) ∧ (m.err ≠ 0 → (drainF (feedF m p)).2.err = m.err)) ∨ ((drainF (feedF m p)).2.err = 0 ∧ m.err = 0 ∧ Pcz (d ++ p) (al ++ (drainF (feedF m p)).1) (drainF (feedF m p)).2 (k + 1)) := by
  obtain ⟨f1, f2⟩ := h.st.feed p
  have hpl := putF_len p m.cr
  have hheld := h.held
  have hfb : (feedF m p).buf.length ≤ 2048 + 3 * p.length := by
    unfold feedF
    split
    · show (m.buf ++ putF m.cr p).length ≤ _
      rw [List.length_append]; omega
    · omega
  have hfe : (feedF m p).err = m.err := by unfold feedF; split <;> rfl
  have hfc : (feedF m p).closed = false := by
    have := h.st.open'
    unfold feedF
    split <;> exact this
  have hfn : (feedF m p).name.length ≤ 100 := by
    unfold feedF
    split
    · exact h.name
    · exact h.name
  have hsh := drain_short _ (feedF m p) (Nat.le_refl _) hfc hfn fun he => by
    rw [hfe] at he
    unfold feedF
    rw [if_neg he]
    exact h.held
  have hr := drainF_room _ (feedF m p) (Nat.le_refl _) (by omega)
  have hdo := doM_le (feedF m p)
  have hc := h.cnt
  have ht := h.txt
  have hst : ∀ al', Streamed (d ++ p) al' (drainF (feedF m p)).2 → al'.length ≤ al.length + (4097 + 6 * p.length) → tlen al' ≤ tlen al + (4097 + 6 * p.length) → (∀ x ∈ al', x.attrs.length ≤ 8) → Pcz (d ++ p) al' (drainF (feedF m p)).2 (k + 1) :=
    fun al' h1 h2 h3 h4 => ⟨h1, hsh.2, hsh.1, by rw [List.length_append]; omega, by rw [List.length_append]; omega, h4⟩
  by_cases he : m.err = 0
  · by_cases he2 : (drainF (feedF m p)).2.err = 0
    · refine .inr ⟨he2, he, hst _ (f2 he) ?_ ?_ ?_⟩
      · rw [List.length_append]; omega
      · rw [tlen_append]; omega
      · intro x hx
        rcases List.mem_append.1 hx with hx | hx
        · exact h.few x hx
        · exact drainF_few9 _ x hx
    · exact .inl ⟨he2, hst al ((f2 he).any' he2) (by omega) (by omega) h.few, fun h => absurd he h⟩
  · have := f1 he
    exact .inl ⟨by rw [this.1]; exact he, hst al (this.2 _) (by omega) (by omega) h.few, fun _ => this.1⟩
end Go.Proofs.YtbabcohidpcjjaaGreat
