import Derived.Test.YtbabcohidpcjjaaGreatZMkFlow
/-
  The marks of a text are those of its pieces; the bit that tells a CR changes no mark: plain Lean, no Go.
-/
namespace Go.Proofs.YtbabcohidpcjjaaGreat
open Mem

/-! the bit that tells a CR -/
def crM (m : MkM) (b : Bool) : MkM := { m with cr := b }
theorem tag_cr (m : MkM) (e b : Bool) : tagF (crM m b) e = ((tagF m e).1, (tagF m e).2.1, (tagF m e).2.2.1, crM (tagF m e).2.2.2 b) := by
  unfold tagF
  simp only [show (crM m b).buf = m.buf from rfl, show (crM m b).closed = m.closed from rfl]
  obtain ⟨er, her⟩ : ∃ er, er = if (parseF (m.buf.take 2049) e).2.1 > 2048 ∨ ((parseF (m.buf.take 2049) e).2.1 < 0 ∧ 2048 < (m.buf.take 2049).length) then (41 : Int) else (parseF (m.buf.take 2049) e).2.2 := ⟨_, rfl⟩
  rw [← her]
  by_cases hr : er = 0
  · have hr' : ¬ er ≠ 0 := fun h => h hr
    simp only [if_neg hr']
    by_cases hn : (parseF (m.buf.take 2049) e).2.1 < 0
    · simp only [if_pos hn]
      cases h : m.closed
      · rfl
      · rfl
    · simp only [if_neg hn]
      cases e <;> rfl
  · have hr' : er ≠ 0 := hr
    simp only [if_pos hr']
    rfl
theorem later_cr (m : MkM) (b : Bool) : comLater (crM m b) = ((comLater m).1, (comLater m).2.1, (comLater m).2.2.1, crM (comLater m).2.2.2 b) := by
  unfold comLater
  simp only [show (crM m b).buf = m.buf from rfl, show (crM m b).closed = m.closed from rfl]
  by_cases h1 : 0 ≤ Lib.index m.buf comEnd ∧ (Lib.index m.buf comEnd2 < 0 ∨ Lib.index m.buf comEnd < Lib.index m.buf comEnd2)
  · rw [if_pos h1, if_pos h1]; rfl
  · rw [if_neg h1, if_neg h1]
    by_cases h2 : 0 ≤ Lib.index m.buf comEnd2
    · rw [if_pos h2, if_pos h2]; rfl
    · rw [if_neg h2, if_neg h2]
      cases h : m.closed <;> rfl
theorem com_cr (m : MkM) (b : Bool) : comF (crM m b) = ((comF m).1, (comF m).2.1, (comF m).2.2.1, crM (comF m).2.2.2 b) := by
  unfold comF
  simp only [show (crM m b).buf = m.buf from rfl, show (crM m b).closed = m.closed from rfl, show (crM m b).fresh = m.fresh from rfl]
  cases hf : m.fresh
  · exact later_cr m b
  · rw [if_pos rfl, if_pos rfl]
    by_cases h1 : ([62] : Str).isPrefixOf m.buf = true
    · rw [if_pos h1, if_pos h1]; rfl
    · rw [if_neg h1, if_neg h1]
      by_cases h2 : ([45, 62] : Str).isPrefixOf m.buf = true
      · rw [if_pos h2, if_pos h2]; rfl
      · rw [if_neg h2, if_neg h2]
        by_cases h3 : m.closed = false ∧ (m.buf = [] ∨ m.buf = [45])
        · rw [if_pos h3, if_pos h3]
        · rw [if_neg h3, if_neg h3]
          exact later_cr { m with fresh := false } b
theorem cd_cr (m : MkM) (b : Bool) : cdF (crM m b) = ((cdF m).1, (cdF m).2.1, (cdF m).2.2.1, crM (cdF m).2.2.2 b) := by
  unfold cdF
  simp only [show (crM m b).buf = m.buf from rfl, show (crM m b).closed = m.closed from rfl]
  by_cases h1 : 0 ≤ Lib.index m.buf cdEnd
  · rw [if_pos h1, if_pos h1]; rfl
  · rw [if_neg h1, if_neg h1]
    cases h : m.closed <;> rfl
theorem step_cr (m : MkM) (b : Bool) : stepF (crM m b) = ((stepF m).1, (stepF m).2.1, (stepF m).2.2.1, crM (stepF m).2.2.2 b) := by
  have hk : textF (crM m b) m.buf = textF m m.buf := textF_kin (m := m) (m' := crM m b) ⟨rfl, rfl, rfl⟩ rfl _ _ (Nat.le_refl _)
  unfold stepF
  rw [show (crM m b).buf = m.buf from rfl, hk]
  generalize textF m m.buf = p
  obtain ⟨t, r, is⟩ := p
  simp only
  by_cases ht : t ≠ []
  · rw [if_pos ht, if_pos ht]; rfl
  · rw [if_neg ht, if_neg ht]
    by_cases h2 : is = 2
    · rw [if_pos h2, if_pos h2]; exact tag_cr { m with buf := r } false b
    · rw [if_neg h2, if_neg h2]
      by_cases h3 : is = 3
      · rw [if_pos h3, if_pos h3]; exact tag_cr { m with buf := r } true b
      · rw [if_neg h3, if_neg h3]
        repeat' split
        all_goals rfl
theorem one_cr (m : MkM) (b : Bool) : oneF (crM m b) = ((oneF m).1, (oneF m).2.1, (oneF m).2.2.1, crM (oneF m).2.2.2 b) := by
  unfold oneF
  rw [show (crM m b).pass = m.pass from rfl]
  by_cases h0 : m.pass = 0
  · rw [if_pos h0, if_pos h0]; exact step_cr m b
  · rw [if_neg h0, if_neg h0]
    unfold passF
    rw [show (crM m b).pass = m.pass from rfl, show (crM m b).buf = m.buf from rfl, show (crM m b).closed = m.closed from rfl]
    by_cases h1 : m.pass = 1
    · rw [if_pos h1, if_pos h1]; exact com_cr m b
    · rw [if_neg h1, if_neg h1]
      by_cases h2 : m.pass = 2
      · rw [if_pos h2, if_pos h2]
        by_cases h3 : 0 ≤ Lib.indexByte m.buf 62
        · rw [if_pos h3, if_pos h3]; rfl
        · rw [if_neg h3, if_neg h3]
          cases h : m.closed <;> rfl
      · rw [if_neg h2, if_neg h2]; exact cd_cr m b
theorem switch_cr (m : MkM) (x : MarkD) (b : Bool) : switchF (crM m b) x = crM (switchF m x) b := by
  have hs : ∀ k, setF (crM m b) k x.name = crM (setF m k x.name) b := fun k => by unfold setF; split <;> rfl
  unfold switchF
  repeat' split
  all_goals first | rfl | exact hs _
theorem drain_cr (b : Bool) : ∀ (n : Nat) (m : MkM), doM m ≤ n → drainF (crM m b) = ((drainF m).1, crM (drainF m).2 b) := by
  intro n
  induction n using Nat.strongRecOn with
  | _ n ih =>
    intro m hm
    have e := one_cr m b
    by_cases he : m.err = 0
    · have he' : (crM m b).err = 0 := he
      cases ht : (oneF m).2.1
      · cases hs : (oneF m).2.2.1
        · have hl := one_less m (.inr hs)
          rw [drain_go he ht hs, drain_go he' (by rw [e]; exact ht) (by rw [e]; exact hs), e]
          exact ih _ (by omega) _ (Nat.le_refl _)
        · rw [drain_stop he ht hs, drain_stop he' (by rw [e]; exact ht) (by rw [e]; exact hs), e]
      · have hl := one_less m (.inl ht)
        rw [drain_told he ht, drain_told he' (by rw [e]; exact ht), e]
        simp only [switch_cr]
        have hd := doM_switch (oneF m).2.2.2 (oneF m).1
        rw [ih _ (by omega) (switchF (oneF m).2.2.2 (oneF m).1) (Nat.le_refl _)]
    · rw [drain_err he, drain_err (show (crM m b).err ≠ 0 from he)]
theorem drain_keeps_cr (m : MkM) : (drainF m).2.cr = m.cr := by
  have := drain_cr m.cr _ m (Nat.le_refl _)
  rw [show crM m m.cr = m from rfl] at this
  rw [this]
  rfl
theorem drain_closed : ∀ (n : Nat) (m : MkM), doM m ≤ n → (drainF m).2.closed = m.closed := by
  intro n
  induction n using Nat.strongRecOn with
  | _ n ih =>
    intro m hm
    by_cases he : m.err = 0
    · cases ht : (oneF m).2.1
      · cases hs : (oneF m).2.2.1
        · have hl := one_less m (.inr hs)
          rw [drain_go he ht hs]
          exact (ih _ (by omega) _ (Nat.le_refl _)).trans (one_closed m)
        · rw [drain_stop he ht hs]; exact one_closed m
      · have hl := one_less m (.inl ht)
        rw [drain_told he ht]
        have hd := doM_switch (oneF m).2.2.2 (oneF m).1
        exact (ih _ (by omega) (switchF (oneF m).2.2.2 (oneF m).1) (Nat.le_refl _)).trans ((switch_closed _ _).trans (one_closed m))
    · rw [drain_err he]

/-! texts in pieces -/
theorem putF_append : ∀ (s t : Str) (cr : Bool), putF cr (s ++ t) = putF cr s ++ putF (putC cr s) t ∧ putC cr (s ++ t) = putC (putC cr s) t
  | [], _, _ => ⟨rfl, rfl⟩
  | c :: s, t, cr => by
    obtain ⟨h1, h2⟩ := putF_append s t (c == 13)
    simp only [List.cons_append, putF, putC]
    rw [h1, h2, List.append_assoc]
    exact ⟨rfl, rfl⟩
def wholeM (t : Str) : MkM := { zeroM with buf := putF false t }
/-- a stream that has come so far: the marks it told, and it -/
structure Streamed (t : Str) (al : List MarkD) (m : MkM) : Prop where
  like : LikeO (drainF (wholeM t)) (al, crM m false)
  cr : m.err = 0 → m.cr = putC false t
  open' : m.closed = false
theorem Streamed.start : Streamed [] [] zeroM := by
  have ht : textF (wholeM []) [] = ([], [], 1) := by rw [textF]
  have ho : oneF (wholeM []) = (noM, false, true, zeroM) := by
    unfold oneF
    rw [if_pos (show (wholeM []).pass = 0 from rfl)]
    unfold stepF
    rw [show (wholeM []).buf = [] from rfl, ht]
    rfl
  have h : drainF (wholeM []) = ([], zeroM) := by
    have := drain_stop (m := wholeM []) rfl (by rw [ho]) (by rw [ho])
    rw [ho] at this
    exact this
  exact ⟨by rw [h]; exact ⟨rfl, fun _ => ⟨Alike.refl _, rfl⟩⟩, fun _ => rfl, rfl⟩
theorem whole_ext (t p : Str) : wholeM (t ++ p) = extM (wholeM t) (putF (putC false t) p) false := by
  unfold wholeM extM
  rw [(putF_append t p false).1]
  rfl
theorem Streamed.feed {t : Str} {al : List MarkD} {m : MkM} (h : Streamed t al m) (p : Str) :
    (m.err ≠ 0 → (drainF (feedF m p)).2.err = m.err ∧ ∀ al', Streamed (t ++ p) al' (drainF (feedF m p)).2) ∧ (m.err = 0 → Streamed (t ++ p) (al ++ (drainF (feedF m p)).1) (drainF (feedF m p)).2) := by
  have fl := flow _ (wholeM t) (Nat.le_refl _) rfl rfl (putF (putC false t) p) false
  rw [← whole_ext] at fl
  constructor
  · intro he
    have e1 : feedF m p = m := by unfold feedF; rw [if_neg he]
    rw [e1, drain_err he]
    refine ⟨rfl, fun al' => ⟨⟨?_, fun h0 => ?_⟩, fun h0 => absurd h0 he, h.open'⟩⟩
    · have hw : (drainF (wholeM t)).2.err = m.err := h.like.1
      rw [fl.1, drain_err (m := extM (drainF (wholeM t)).2 (putF (putC false t) p) false) (by show (drainF (wholeM t)).2.err ≠ 0; rw [hw]; exact he)]
      exact hw
    · exfalso
      have hw : (drainF (wholeM t)).2.err = m.err := h.like.1
      rw [fl.1, drain_err (m := extM (drainF (wholeM t)).2 (putF (putC false t) p) false) (by show (drainF (wholeM t)).2.err ≠ 0; rw [hw]; exact he)] at h0
      exact he (hw.symm.trans h0)
  · intro he
    have hw : (drainF (wholeM t)).2.err = m.err := h.like.1
    obtain ⟨ha, hm⟩ := h.like.2 (hw.trans he)
    have hm' : (drainF (wholeM t)).2 = crM m false := hm
    have e2 : extM (drainF (wholeM t)).2 (putF (putC false t) p) false = crM (feedF m p) false := by
      rw [hm']
      unfold feedF
      rw [if_pos he]
      show ({ m with cr := false, buf := m.buf ++ putF (putC false t) p, closed := false } : MkM) = { m with cr := false, buf := m.buf ++ putF m.cr p }
      rw [h.cr he]
      have := h.open'
      cases m
      simp only at this
      subst this
      rfl
    rw [e2, drain_cr false _ _ (Nat.le_refl _)] at fl
    refine ⟨⟨fl.1, fun h0 => ⟨((fl.2 h0).1).trans (ha.append (Alike.refl _)), (fl.2 h0).2⟩⟩, fun _ => ?_, ?_⟩
    · rw [drain_keeps_cr]
      unfold feedF
      rw [if_pos he, (putF_append t p false).2]
      show putC m.cr p = _
      rw [h.cr he]
    · rw [drain_closed _ _ (Nat.le_refl _)]
      unfold feedF
      rw [if_pos he]
      exact h.open'
/-- at the end -/
theorem marks_whole (t : Str) : marksF t = if (drainF { wholeM t with closed := true }).2.err ≠ 0 then ([], (drainF { wholeM t with closed := true }).2.err) else (joinF [] (drainF { wholeM t with closed := true }).1, 0) := by
  have fl := flow _ (wholeM t) (Nat.le_refl _) rfl rfl [] true
  have e1 : ∀ m : MkM, extM m [] true = { m with closed := true } := fun m => by unfold extM; rw [List.append_nil]
  rw [e1, e1] at fl
  have d1 : drainF { zeroM with buf := putF false t, cr := putC false t } = ((drainF (wholeM t)).1, crM (drainF (wholeM t)).2 (putC false t)) := drain_cr (putC false t) _ (wholeM t) (Nat.le_refl _)
  unfold marksF
  simp only [d1]
  have hcl : ({ crM (drainF (wholeM t)).2 (putC false t) with closed := true } : MkM) = crM { (drainF (wholeM t)).2 with closed := true } (putC false t) := rfl
  rw [hcl, drain_cr (putC false t) _ _ (Nat.le_refl _)]
  show (if (drainF (wholeM t)).2.err ≠ 0 then _ else if (drainF { (drainF (wholeM t)).2 with closed := true }).2.err ≠ 0 then _ else _) = _
  by_cases h1 : (drainF (wholeM t)).2.err ≠ 0
  · rw [if_pos h1]
    have := fl.1
    rw [drain_err (m := { (drainF (wholeM t)).2 with closed := true }) h1] at this
    rw [if_pos (by rw [this]; exact h1), this]
    rfl
  · rw [if_neg h1, fl.1]
    by_cases h2 : (drainF { (drainF (wholeM t)).2 with closed := true }).2.err ≠ 0
    · rw [if_pos h2, if_pos h2]
      rfl
    · rw [if_neg h2, if_neg h2]
      have h0 := (fl.2 (by rw [fl.1]; exact Classical.byContradiction h2)).1 []
      rw [h0]
theorem Streamed.close {t : Str} {al : List MarkD} {m : MkM} (h : Streamed t al m) :
    (drainF { m with closed := true }).2.err = (marksF t).2 ∧ ((marksF t).2 = 0 → m.err = 0 ∧ joinF [] (al ++ (drainF { m with closed := true }).1) = (marksF t).1) := by
  have fl := flow _ (wholeM t) (Nat.le_refl _) rfl rfl [] true
  have e1 : ∀ m : MkM, extM m [] true = { m with closed := true } := fun m => by unfold extM; rw [List.append_nil]
  rw [e1, e1] at fl
  have hw : (drainF (wholeM t)).2.err = m.err := h.like.1
  have mw := marks_whole t
  have hme : (marksF t).2 = (drainF { wholeM t with closed := true }).2.err := by
    rw [mw]
    split
    · rfl
    · rename_i h; exact (Classical.byContradiction fun hh => h (fun e => hh e.symm))
  by_cases he : m.err = 0
  · obtain ⟨ha, hm⟩ := h.like.2 (hw.trans he)
    have hm' : (drainF (wholeM t)).2 = crM m false := hm
    have e2 : drainF { (drainF (wholeM t)).2 with closed := true } = ((drainF { m with closed := true }).1, crM (drainF { m with closed := true }).2 false) := by
      rw [hm']
      exact drain_cr false _ { m with closed := true } (Nat.le_refl _)
    rw [e2] at fl
    have he2 : (drainF { wholeM t with closed := true }).2.err = (drainF { m with closed := true }).2.err := fl.1
    refine ⟨by rw [hme, he2], fun h0 => ⟨he, ?_⟩⟩
    rw [hme] at h0
    have h3 := (fl.2 h0).1 []
    rw [mw, if_neg (fun h => h h0), h3]
    exact (ha.append (Alike.refl _)).symm []
  · have hee : ({ m with closed := true } : MkM).err ≠ 0 := he
    have hee2 : ({ (drainF (wholeM t)).2 with closed := true } : MkM).err ≠ 0 := by show (drainF (wholeM t)).2.err ≠ 0; rw [hw]; exact he
    have := fl.1
    rw [drain_err hee2] at this
    have h4 : (drainF { wholeM t with closed := true }).2.err = m.err := this.trans hw
    rw [drain_err hee]
    exact ⟨by rw [hme, h4], fun h0 => absurd (h4.symm.trans (hme.symm.trans h0)) he⟩
theorem joinF_len : ∀ (l out : List MarkD), (joinF out l).length ≤ out.length + l.length
  | [], out => by rw [joinF]; simp
  | x :: l, out => by
    have push := joinF_len l (out ++ [x])
    rw [List.length_append] at push
    have same := joinF_len l out
    rw [joinF]
    simp only [List.length_cons, List.length_nil] at push ⊢
    split
    · omega
    · split
      · omega
      · split
        · rename_i y hy
          split
          · have := joinF_len l (out.dropLast ++ [{ y with text := y.text ++ x.text }])
            rw [List.length_append, List.length_dropLast] at this
            simp only [List.length_cons, List.length_nil] at this
            omega
          · omega
        · omega
theorem marksF_len (t : Str) : (marksF t).1.length ≤ 6 * t.length + 1 := by
  have hp := putF_len t false
  rw [marks_whole]
  obtain ⟨m, hm⟩ : ∃ m : MkM, m = { wholeM t with closed := true } := ⟨_, rfl⟩
  rw [← hm]
  have hb : m.buf = putF false t := by rw [hm]; rfl
  have hn : m.name.length ≤ 4294967280 := by rw [hm]; exact Nat.zero_le _
  have hr := (drainF_room _ m (Nat.le_refl _) hn).2.1
  have hd := doM_le m
  rw [hb] at hd
  split
  · exact Nat.zero_le _
  · refine Nat.le_trans (joinF_len (drainF m).1 []) ?_
    simp only [List.length_nil]
    omega
end Go.Proofs.YtbabcohidpcjjaaGreat

/-
  Plain tags, and the marks of a text that ends in one: plain Lean, no Go.
-/
namespace Go.Proofs.YtbabcohidpcjjaaGreat
open Mem

/-! reading a tag that is written plainly -/
theorem while_at {p : UInt8 → Bool} : ∀ {t : Str}, (∀ c ∈ t, p c = true) → ∀ {d : UInt8} (r : Str), p d = false → (t ++ d :: r).dropWhile p = d :: r ∧ (t ++ d :: r).takeWhile p = t
  | [], _, d, r, hd => by
    rw [List.nil_append, List.dropWhile_cons, List.takeWhile_cons, hd]
    exact ⟨rfl, rfl⟩
  | c :: t, h, d, r, hd => by
    have := while_at (fun x hx => h x (List.mem_cons_of_mem _ hx)) r hd
    rw [List.cons_append, List.dropWhile_cons, List.takeWhile_cons, h c List.mem_cons_self, this.1, this.2]
    exact ⟨rfl, rfl⟩
theorem untilF_at {sg t r : Str} {d : UInt8} (h : ∀ c ∈ t, sg.contains c = false) (hd : sg.contains d = true) : untilF sg (t ++ d :: r) = some (t, d :: r) := by
  have := while_at (p := fun c => !sg.contains c) (t := t) (fun c hc => by rw [h c hc]; rfl) r (by rw [hd]; rfl)
  unfold untilF
  rw [this.1, this.2, if_neg (List.cons_ne_nil _ _)]
theorem while_all {p : UInt8 → Bool} : ∀ {t : Str}, (∀ c ∈ t, p c = true) → t.dropWhile p = []
  | [], _ => rfl
  | c :: t, h => by
    rw [List.dropWhile_cons, h c List.mem_cons_self]
    exact while_all fun x hx => h x (List.mem_cons_of_mem _ hx)
theorem untilF_none {sg t : Str} (h : ∀ c ∈ t, sg.contains c = false) : untilF sg t = none := by
  unfold untilF
  rw [while_all (fun c hc => by rw [h c hc]; rfl), if_pos rfl]
/-- a byte of a name -/
def nmB (c : UInt8) : Bool := (decide (97 ≤ c) && decide (c ≤ 122)) || (decide (48 ≤ c) && decide (c ≤ 57))
theorem nmB_signs : ∀ c : UInt8, nmB c = true → signA.contains c = false ∧ signT.contains c = false ∧ gapB c = false ∧ c ≠ 62 ∧ c ≠ 13 ∧ c ≠ 0 ∧ lowB c = c ∧ c ≠ 60 ∧ c ≠ 38 := by
  intro c h
  have : ∀ n : Fin 256, nmB (UInt8.ofNat n.val) = true → signA.contains (UInt8.ofNat n.val) = false ∧ signT.contains (UInt8.ofNat n.val) = false ∧ gapB (UInt8.ofNat n.val) = false ∧ UInt8.ofNat n.val ≠ 62 ∧ UInt8.ofNat n.val ≠ 13 ∧ UInt8.ofNat n.val ≠ 0 ∧ lowB (UInt8.ofNat n.val) = UInt8.ofNat n.val ∧ UInt8.ofNat n.val ≠ 60 ∧ UInt8.ofNat n.val ≠ 38 := by decide +kernel
  have hc := this ⟨c.toNat, c.toNat_lt⟩
  simp only [UInt8.ofNat_toNat] at hc
  exact hc h
structure Name (n : Str) : Prop where
  some : n ≠ []
  all : ∀ c ∈ n, nmB c = true
theorem lowS_name {n : Str} (h : Name n) : lowS n = n := by
  unfold lowS
  conv => rhs; rw [← List.map_id n]
  exact List.map_congr_left fun c hc => (nmB_signs c (h.all c hc)).2.2.2.2.2.2.1
theorem valueF_quote {v r : Str} (hv : ∀ c ∈ v, c ≠ 34) : valueF (34 :: (v ++ 34 :: r)) = some (v, r) := by
  have hd : (34 :: (v ++ 34 :: r) : Str).dropWhile spaceB = 34 :: (v ++ 34 :: r) := by rw [List.dropWhile_cons]; rfl
  unfold valueF
  rw [hd]
  simp only
  rw [if_pos (.inl trivial), untilF_at (sg := [34]) (fun c hc => by simpa using hv c hc) (by decide)]
  rfl
theorem valueF_open {v : Str} (hv : ∀ c ∈ v, c ≠ 34) : valueF (34 :: v) = none := by
  have hd : (34 :: v : Str).dropWhile spaceB = 34 :: v := by rw [List.dropWhile_cons]; rfl
  unfold valueF
  rw [hd]
  simp only
  rw [if_pos (.inl trivial), untilF_none (sg := [34]) (fun c hc => by simpa using hv c hc)]
  rfl
theorem attrF_of {n t : Str} (hn : Name n) : attrF (n ++ 61 :: t) = (valueF t).map fun p => ((n, allS p.1 true), p.2) := by
  match n, hn with
  | [], hn => exact absurd rfl hn.some
  | c :: n, hn =>
    have hu : untilF signA (n ++ 61 :: t) = some (n, 61 :: t) := untilF_at (fun x hx => (nmB_signs x (hn.all x (List.mem_cons_of_mem _ hx))).1) (by decide)
    rw [List.cons_append]
    simp only [attrF, hu]
    have hd : (61 :: t : Str).dropWhile spaceB = 61 :: t := by rw [List.dropWhile_cons]; rfl
    rw [hd]
    simp only [if_pos]
    rw [lowS_name hn]
/-- attributes as they are written: each name with its value's text -/
def attsT (l : List (Str × Str)) : Str := l.flatMap fun a => 32 :: (a.1 ++ 61 :: 34 :: (a.2 ++ [34]))
def readA (l : List (Str × Str)) : List (Str × Str) := l.map fun a => (a.1, allS a.2 true)
structure Atts (l : List (Str × Str)) : Prop where
  ok : ∀ a ∈ l, Name a.1 ∧ ∀ c ∈ a.2, c ≠ 34
  apart : l.Pairwise fun a b => a.1 ≠ b.1
theorem tagsF_attr {al : List (Str × Str)} {n v r : Str} (hn : Name n) (hv : ∀ c ∈ v, c ≠ 34) : tagsF al (32 :: (n ++ 61 :: 34 :: (v ++ 34 :: r))) = tagsF (if hasA al n then al else al ++ [(n, allS v true)]) r := by
  rw [tagsF]
  have ha := attrF_of (t := 34 :: (v ++ 34 :: r)) hn
  rw [valueF_quote hv] at ha
  match n, hn, ha with
  | [], hn, _ => exact absurd rfl hn.some
  | c :: n, hn, ha =>
    obtain ⟨-, -, g1, g2, -⟩ := nmB_signs c (hn.all c List.mem_cons_self)
    have hd : (32 :: (c :: n ++ 61 :: 34 :: (v ++ 34 :: r)) : Str).dropWhile gapB = c :: (n ++ 61 :: 34 :: (v ++ 34 :: r)) := by
      rw [List.dropWhile_cons, if_pos (by decide), List.cons_append, List.dropWhile_cons, g1]
      rfl
    rw [hd]
    simp only
    rw [List.cons_append] at ha
    rw [if_neg g2, ha]
    simp only [Option.map_some]
    rw [if_pos]
    simp only [List.length_cons, List.length_append]
    omega
theorem tagsF_all : ∀ (l : List (Str × Str)) (al : List (Str × Str)) (r : Str), Atts l → (∀ a ∈ l, ∀ b ∈ al, a.1 ≠ b.1) → tagsF al (attsT l ++ r) = tagsF (al ++ readA l) r
  | [], al, r, _, _ => by
    show tagsF al ([] ++ r) = tagsF (al ++ []) r
    rw [List.nil_append, List.append_nil]
  | a :: l, al, r, h, hd => by
    have e : attsT (a :: l) ++ r = 32 :: (a.1 ++ 61 :: 34 :: (a.2 ++ 34 :: (attsT l ++ r))) := by
      unfold attsT
      rw [List.flatMap_cons]
      simp
    obtain ⟨h1, h2⟩ := h.ok a List.mem_cons_self
    have hp := List.pairwise_cons.1 h.apart
    have hno : hasA al a.1 = false := by
      unfold hasA
      rw [List.any_eq_false]
      intro b hb hh
      exact hd a List.mem_cons_self b hb (by simpa using (beq_iff_eq.1 hh).symm)
    rw [e, tagsF_attr h1 h2, hno]
    simp only [Bool.false_eq_true, if_false]
    rw [tagsF_all l (al ++ [(a.1, allS a.2 true)]) r ⟨fun b hb => h.ok b (List.mem_cons_of_mem _ hb), hp.2⟩ ?_]
    · rw [List.append_assoc]
      rfl
    · intro b hb x hx
      rcases List.mem_append.1 hx with hx | hx
      · exact hd b (List.mem_cons_of_mem _ hb) x hx
      · rw [List.mem_singleton.1 hx]
        exact fun e => hp.1 b hb e.symm
def selfT (b : Bool) : Str := if b then [47] else []
theorem tagsF_shut (al : List (Str × Str)) (b : Bool) (r : Str) : tagsF al (selfT b ++ 62 :: r) = some (al, b, r) := by
  rw [tagsF]
  cases b
  · have hd : (selfT false ++ 62 :: r).dropWhile gapB = 62 :: r := by
      show (62 :: r).dropWhile gapB = _
      rw [List.dropWhile_cons]; rfl
    have ht : (selfT false ++ 62 :: r).takeWhile gapB = [] := by
      show (62 :: r).takeWhile gapB = _
      rw [List.takeWhile_cons]; rfl
    rw [hd, ht]
    rfl
  · have hd : (selfT true ++ 62 :: r).dropWhile gapB = 62 :: r := by
      show (47 :: 62 :: r).dropWhile gapB = _
      rw [List.dropWhile_cons, if_pos (by decide), List.dropWhile_cons]; rfl
    have ht : (selfT true ++ 62 :: r).takeWhile gapB = [47] := by
      show (47 :: 62 :: r).takeWhile gapB = _
      rw [List.takeWhile_cons, if_pos (by decide), List.takeWhile_cons]; rfl
    rw [hd, ht]
    rfl
/-- a plain tag -/
def ltT (e : Bool) : Str := if e then [60, 47] else [60]
def tagT (e : Bool) (n : Str) (l : List (Str × Str)) (b : Bool) : Str := ltT e ++ (n ++ (attsT l ++ (selfT b ++ [62])))
theorem attsT_head (l : List (Str × Str)) (b : Bool) (r : Str) : ∃ d t, attsT l ++ (selfT b ++ 62 :: r) = d :: t ∧ signT.contains d = true := by
  cases l with
  | nil => cases b
           · exact ⟨62, r, rfl, by decide⟩
           · exact ⟨47, 62 :: r, rfl, by decide⟩
  | cons a l => exact ⟨32, _, rfl, by decide⟩
theorem lt_drop (e : Bool) (s : Str) : (ltT e ++ s).drop (if e = true then 2 else 1) = s := by cases e <;> rfl
theorem parseF_tag {e : Bool} {n : Str} {l : List (Str × Str)} {b : Bool} (hn : Name n) (hl : Atts l) :
    parseF (tagT e n l b) e = if e then (⟨3, n, [], false, []⟩, ((tagT e n l b).length : Int), 0) else if 8 < l.length then (bareM 0, ((tagT e n l b).length : Int), 42) else (⟨2, n, readA l, b, []⟩, ((tagT e n l b).length : Int), 0) := by
  obtain ⟨d, t, eq, hd⟩ := attsT_head l b []
  have hu : untilF signT ((tagT e n l b).drop (if e = true then 2 else 1)) = some (n, attsT l ++ (selfT b ++ [62])) := by
    unfold tagT
    rw [lt_drop, eq]
    exact untilF_at (fun c hc => (nmB_signs c (hn.all c hc)).2.1) hd
  have ht : tagsF [] (attsT l ++ (selfT b ++ [62])) = some (readA l, b, []) := by
    rw [tagsF_all l [] _ hl (fun _ _ _ h => by cases h), List.nil_append]
    exact tagsF_shut _ _ _
  unfold parseF
  rw [hu]
  simp only
  rw [ht]
  simp only [List.length_nil, Int.natCast_zero, Int.sub_zero, lowS_name hn]
  rw [show (readA l).length = l.length from List.length_map _]
/-- a tag whose last value has no end -/
theorem parseF_open {e : Bool} {n a v : Str} (hn : Name n) (ha : Name a) (hv : ∀ c ∈ v, c ≠ 34) : parseF (ltT e ++ (n ++ 32 :: (a ++ 61 :: 34 :: v))) e = (bareM 0, -1, 0) := by
  have hu : untilF signT ((ltT e ++ (n ++ 32 :: (a ++ 61 :: 34 :: v))).drop (if e = true then 2 else 1)) = some (n, 32 :: (a ++ 61 :: 34 :: v)) := by
    rw [lt_drop]
    exact untilF_at (fun c hc => (nmB_signs c (hn.all c hc)).2.1) (by decide)
  have ht : tagsF [] (32 :: (a ++ 61 :: 34 :: v)) = none := by
    rw [tagsF]
    have hat := attrF_of (t := 34 :: v) ha
    rw [valueF_open hv] at hat
    match a, ha, hat with
    | [], ha, _ => exact absurd rfl ha.some
    | c :: a, ha, hat =>
      obtain ⟨-, -, g1, g2, -⟩ := nmB_signs c (ha.all c List.mem_cons_self)
      have hd : (32 :: (c :: a ++ 61 :: 34 :: v) : Str).dropWhile gapB = c :: (a ++ 61 :: 34 :: v) := by
        rw [List.dropWhile_cons, if_pos (by decide), List.cons_append, List.dropWhile_cons, g1]
        rfl
      rw [hd]
      simp only
      rw [List.cons_append] at hat
      rw [if_neg g2, hat]
      rfl
  unfold parseF
  rw [hu]
  simp only
  rw [ht]
/-- a tag that ends behind a value -/
theorem parseF_cut {e : Bool} {n a v : Str} (hn : Name n) (ha : Name a) (hv : ∀ c ∈ v, c ≠ 34) : parseF (ltT e ++ (n ++ 32 :: (a ++ 61 :: 34 :: (v ++ [34])))) e = (bareM 0, -1, 0) := by
  have hu : untilF signT ((ltT e ++ (n ++ 32 :: (a ++ 61 :: 34 :: (v ++ [34])))).drop (if e = true then 2 else 1)) = some (n, 32 :: (a ++ 61 :: 34 :: (v ++ [34]))) := by
    rw [lt_drop]
    exact untilF_at (fun c hc => (nmB_signs c (hn.all c hc)).2.1) (by decide)
  have ht : tagsF [] (32 :: (a ++ 61 :: 34 :: (v ++ [34]))) = none := by
    rw [tagsF_attr ha hv, tagsF]
    rfl
  unfold parseF
  rw [hu]
  simp only
  rw [ht]

/-! the machine when nothing more comes -/
def txF (t : Str) : List MarkD := if t = [] then [] else [textM t]
theorem putF_same : ∀ s : Str, (∀ c ∈ s, c ≠ 13 ∧ c ≠ 0) → putF false s = s
  | [], _ => rfl
  | c :: s, h => by
    obtain ⟨h1, h2⟩ := h c List.mem_cons_self
    rw [putF, show (c == 13) = false from beq_eq_false_iff_ne.2 h1, putF_same s fun x hx => h x (List.mem_cons_of_mem _ hx)]
    unfold putOne
    rw [if_neg (by simp), if_neg h1, if_neg h2]
    rfl
theorem textF_front (m : MkM) (s : Str) : ∀ f : Str, (∀ c ∈ f, c ≠ 60 ∧ c ≠ 38) → textF m (f ++ s) = (f ++ (textF m s).1, (textF m s).2)
  | [], _ => rfl
  | c :: f, h => by
    obtain ⟨h1, h2⟩ := h c List.mem_cons_self
    rw [List.cons_append, textF.eq_2, if_neg h1, if_neg (fun hh => h2 hh.1), textF_front m s f fun x hx => h x (List.mem_cons_of_mem _ hx)]
    rfl
theorem step_one {m : MkM} (hp : m.pass = 0) : oneF m = stepF m := by unfold oneF; rw [if_pos hp]
theorem switch_text (m : MkM) (t : Str) : switchF m (textM t) = m := by unfold switchF; rw [if_pos (by show (1 : Int) ≠ 2; decide)]
theorem drain_text {m : MkM} (hp : m.pass = 0) (he : m.err = 0) {t r : Str} {is : Int} (h : textF m m.buf = (t, r, is)) (h2 : textF { m with buf := r } r = ([], r, is)) :
    drainF m = (txF t ++ (drainF { m with buf := r }).1, (drainF { m with buf := r }).2) := by
  by_cases ht : t = []
  · have e : oneF m = oneF { m with buf := r } := by
      rw [step_one hp, step_one (show ({ m with buf := r } : MkM).pass = 0 from hp)]
      unfold stepF
      simp only [h, h2, ht]
    rw [drain_eq he (show ({ m with buf := r } : MkM).err = 0 from he) e, ht]
    rfl
  · have e : oneF m = (textM t, true, false, { m with buf := r }) := by
      rw [step_one hp]
      unfold stepF
      rw [h]
      simp only
      rw [if_pos ht]
    have d := drain_told he (by rw [e])
    rw [e] at d
    simp only [switch_text] at d
    rw [d]
    unfold txF
    rw [if_neg ht]
    rfl
theorem drain_none {m : MkM} (hp : m.pass = 0) (he : m.err = 0) (hb : m.buf = []) : drainF m = ([], m) := by
  have ht : textF m m.buf = ([], [], 1) := by rw [hb, textF]
  have e : oneF m = (noM, false, true, m) := by
    rw [step_one hp]
    unfold stepF
    rw [ht]
    simp only [ne_eq, not_true_eq_false, if_false]
    have : ({ m with buf := [] } : MkM) = m := by rw [← hb]
    rw [this]
    rfl
  have d := drain_stop he (by rw [e]) (by rw [e])
  rw [e] at d
  exact d
/-- a tag at the front of what is left -/
theorem one_tag {m : MkM} (hp : m.pass = 0) {e : Bool} (hk : textF m m.buf = ([], m.buf, if e then 3 else 2)) : oneF m = tagF m e := by
  rw [step_one hp]
  unfold stepF
  rw [hk]
  cases e <;> rfl
theorem drain_tag {m : MkM} (hp : m.pass = 0) (he : m.err = 0) (hc : m.closed = true) {e : Bool} (hk : textF m m.buf = ([], m.buf, if e then 3 else 2)) :
    ((2048 < (parseF (m.buf.take 2049) e).2.1 ∨ ((parseF (m.buf.take 2049) e).2.1 < 0 ∧ 2048 < m.buf.length)) → (drainF m).2.err = 41) ∧
    ((parseF (m.buf.take 2049) e).2.1 < 0 → (parseF (m.buf.take 2049) e).2.2 = 0 → m.buf.length ≤ 2048 → (drainF m).1 = [] ∧ (drainF m).2.err = 0) ∧
    (0 ≤ (parseF (m.buf.take 2049) e).2.1 → (parseF (m.buf.take 2049) e).2.1 ≤ 2048 → (parseF (m.buf.take 2049) e).2.2 ≠ 0 → (drainF m).2.err = (parseF (m.buf.take 2049) e).2.2) ∧
    (0 ≤ (parseF (m.buf.take 2049) e).2.1 → (parseF (m.buf.take 2049) e).2.1 ≤ 2048 → (parseF (m.buf.take 2049) e).2.2 = 0 →
      drainF m = ((parseF (m.buf.take 2049) e).1 :: (drainF (switchF { m with buf := m.buf.drop (parseF (m.buf.take 2049) e).2.1.toNat, mode := if e then 0 else m.mode } (parseF (m.buf.take 2049) e).1)).1,
        (drainF (switchF { m with buf := m.buf.drop (parseF (m.buf.take 2049) e).2.1.toNat, mode := if e then 0 else m.mode } (parseF (m.buf.take 2049) e).1)).2)) := by
  have h1 := one_tag hp hk
  have hlt : (m.buf.take 2049).length = min 2049 m.buf.length := List.length_take
  obtain ⟨p, hpp⟩ : ∃ p, p = parseF (m.buf.take 2049) e := ⟨_, rfl⟩
  obtain ⟨x, n, er0⟩ := p
  unfold tagF at h1
  simp only [← hpp, hlt] at h1
  rw [← hpp]
  simp only
  refine ⟨?_, ?_, ?_, ?_⟩
  · intro h
    have hc1 : n > 2048 ∨ (n < 0 ∧ 2048 < min 2049 m.buf.length) := by omega
    rw [if_pos hc1, if_pos (by decide)] at h1
    rw [drain_stop he (by rw [h1]) (by rw [h1]), h1]
  · intro hn h0 hl
    have hc1 : ¬ (n > 2048 ∨ (n < 0 ∧ 2048 < min 2049 m.buf.length)) := by omega
    rw [if_neg hc1, h0, if_neg (fun h => h rfl), if_pos hn, hc, if_pos rfl] at h1
    rw [drain_stop he (by rw [h1]) (by rw [h1]), h1]
    exact ⟨rfl, he⟩
  · intro hn hl h0
    have hc1 : ¬ (n > 2048 ∨ (n < 0 ∧ 2048 < min 2049 m.buf.length)) := by omega
    rw [if_neg hc1, if_pos h0] at h1
    rw [drain_stop he (by rw [h1]) (by rw [h1]), h1]
  · intro hn hl h0
    have hc1 : ¬ (n > 2048 ∨ (n < 0 ∧ 2048 < min 2049 m.buf.length)) := by omega
    rw [if_neg hc1, h0, if_neg (fun h => h rfl), if_neg (by omega)] at h1
    have d := drain_told he (by rw [h1])
    rw [h1] at d
    cases e
    · exact d
    · exact d
theorem look_tag2 {m : MkM} (hm : m.mode = 0) (e : Bool) {c : UInt8} (hc : letterB c = true) (r : Str) : lookF m (ltT e ++ c :: r) = if e then 3 else 2 := by
  unfold lookF
  rw [if_neg (fun h => h hm)]
  cases e
  · show (if letterB c = true then (2 : Int) else _) = 2
    rw [if_pos hc]
  · show (if letterB 47 = true then (2 : Int) else if (47 : UInt8) = 63 then 8 else if (47 : UInt8) = 33 then declF m _ else if (47 : UInt8) ≠ 47 then 0 else if letterB c = true then 3 else _) = 3
    rw [if_neg (by decide), if_neg (by decide), if_neg (by decide), if_neg (by decide), if_pos hc]
theorem textF_ltk {m : MkM} {r : Str} {k : Int} (h : lookF m (60 :: r) = k) (h0 : k ≠ 0) : textF m (60 :: r) = ([], 60 :: r, k) := by
  rw [textF.eq_2, if_pos rfl, if_neg (by rw [h]; exact h0), h]
theorem textF_tag {m : MkM} (hm : m.mode = 0) (e : Bool) {c : UInt8} (hc : letterB c = true) (r : Str) : textF m (ltT e ++ c :: r) = ([], ltT e ++ c :: r, if e then 3 else 2) := by
  have h := look_tag2 hm e hc r
  have : ∃ t, ltT e ++ c :: r = 60 :: t := by cases e <;> exact ⟨_, rfl⟩
  obtain ⟨t, ht⟩ := this
  rw [ht] at h ⊢
  exact textF_ltk h (by cases e <;> decide)
theorem join_tx (f : Str) {x : MarkD} (hx : x.kind ≠ 1) : joinF [] (txF f ++ [x]) = txF f ++ [x] := by
  unfold txF
  by_cases h : f = []
  · rw [if_pos h, List.nil_append, joinF, if_pos hx]
    rfl
  · rw [if_neg h, List.cons_append, List.nil_append, joinF, if_neg (by show ¬ (1 : Int) ≠ 1; decide), if_neg (show ¬ (textM f).text = [] from h)]
    show joinF [textM f] [x] = _
    rw [joinF, if_pos hx]
    rfl
theorem join_tx' (f : Str) : joinF [] (txF f) = txF f := by
  unfold txF
  by_cases h : f = []
  · rw [if_pos h]; rfl
  · rw [if_neg h, joinF, if_neg (by show ¬ (1 : Int) ≠ 1; decide), if_neg (show ¬ (textM f).text = [] from h)]
    rfl
/-- a closed machine that begins -/
def shutM (s : Str) : MkM := { zeroM with buf := s, closed := true }
theorem marks_shut {s : Str} (h : ∀ c ∈ s, c ≠ 13 ∧ c ≠ 0) : marksF s = if (drainF (shutM s)).2.err ≠ 0 then ([], (drainF (shutM s)).2.err) else (joinF [] (drainF (shutM s)).1, 0) := by
  have e : ({ wholeM s with closed := true } : MkM) = shutM s := by unfold wholeM shutM; rw [putF_same s h]
  rw [marks_whole, e]
/-- a text ahead of a tag that all of the rest is -/
theorem shut_tag {f T : Str} {e : Bool} (hf : ∀ c ∈ f, c ≠ 60 ∧ c ≠ 38) {c : UInt8} {r : Str} (hc : letterB c = true) (hT : T = ltT e ++ c :: r) :
    drainF (shutM (f ++ T)) = (txF f ++ (drainF (shutM T)).1, (drainF (shutM T)).2) := by
  have h1 : textF (shutM T) T = ([], T, if e then 3 else 2) := by
    have := textF_tag (m := shutM T) rfl e hc r
    rwa [← hT] at this
  have h2 : textF (shutM (f ++ T)) (f ++ T) = (f, T, if e then 3 else 2) := by
    have hk : textF (shutM (f ++ T)) T = textF (shutM T) T := textF_kin (m := shutM T) (m' := shutM (f ++ T)) ⟨rfl, rfl, rfl⟩ rfl _ T (Nat.le_refl _)
    rw [textF_front _ T f hf, hk, h1, List.append_nil]
  exact drain_text (m := shutM (f ++ T)) rfl rfl h2 h1
/-- a whole tag, or one that is too long, or wrong -/
theorem marks_tag {f T : Str} {e : Bool} (hf : ∀ c ∈ f, c ≠ 60 ∧ c ≠ 38) {c : UInt8} {r : Str} (hc : letterB c = true) (hT : T = ltT e ++ c :: r) (ho : ∀ c ∈ f ++ T, c ≠ 13 ∧ c ≠ 0) :
    ((2048 < (parseF (T.take 2049) e).2.1 ∨ ((parseF (T.take 2049) e).2.1 < 0 ∧ 2048 < T.length)) → marksF (f ++ T) = ([], 41)) ∧
    ((parseF (T.take 2049) e).2.1 < 0 → (parseF (T.take 2049) e).2.2 = 0 → T.length ≤ 2048 → marksF (f ++ T) = (txF f, 0)) ∧
    (0 ≤ (parseF (T.take 2049) e).2.1 → (parseF (T.take 2049) e).2.1 ≤ 2048 → (parseF (T.take 2049) e).2.2 ≠ 0 → marksF (f ++ T) = ([], (parseF (T.take 2049) e).2.2)) ∧
    ((parseF (T.take 2049) e).2.1 = T.length → T.length ≤ 2048 → (parseF (T.take 2049) e).2.2 = 0 → (parseF (T.take 2049) e).1.kind ≠ 1 → marksF (f ++ T) = (txF f ++ [(parseF (T.take 2049) e).1], 0)) := by
  have h1 : textF (shutM T) T = ([], T, if e then 3 else 2) := by
    have := textF_tag (m := shutM T) rfl e hc r
    rwa [← hT] at this
  obtain ⟨d1, d2, d3, d4⟩ := drain_tag (m := shutM T) rfl rfl rfl h1
  rw [show (shutM T).buf = T from rfl] at d1 d2 d3 d4
  have hd := shut_tag hf hc hT
  rw [marks_shut ho, hd]
  simp only
  refine ⟨fun h => ?_, fun a b c => ?_, fun a b c => ?_, fun a b c k => ?_⟩
  · rw [d1 h]; rfl
  · obtain ⟨q1, q2⟩ := d2 a b c
    rw [q1, q2, if_neg (fun h => h rfl), List.append_nil, join_tx']
  · rw [d3 a b c, if_pos c]
  · have q := d4 (by omega) (by omega) c
    have hb : T.drop (parseF (T.take 2049) e).2.1.toNat = [] := by
      rw [a]; exact List.drop_of_length_le (by show T.length ≤ _; omega)
    have hz : drainF (switchF { shutM T with buf := T.drop (parseF (T.take 2049) e).2.1.toNat, mode := if e then 0 else (shutM T).mode } (parseF (T.take 2049) e).1) = ([], switchF { shutM T with buf := T.drop (parseF (T.take 2049) e).2.1.toNat, mode := if e then 0 else (shutM T).mode } (parseF (T.take 2049) e).1) := by
      rw [hb]
      have hs : ∀ (m : MkM) x, (switchF m x).pass = m.pass ∧ (switchF m x).buf = m.buf := fun m x => by
        have hs : ∀ k, (setF m k x.name).pass = m.pass ∧ (setF m k x.name).buf = m.buf := fun k => by unfold setF; split <;> exact ⟨rfl, rfl⟩
        unfold switchF
        repeat' split
        all_goals first | exact ⟨rfl, rfl⟩ | exact hs _
      exact drain_none ((hs _ _).1) ((switchF_err _ _)) ((hs _ _).2)
    rw [q, hz]
    simp only
    rw [if_neg (by rw [switchF_err]; exact fun h => h rfl), join_tx f k]
end Go.Proofs.YtbabcohidpcjjaaGreat
