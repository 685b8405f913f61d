/-
  The marks of a text are those of its pieces; the bit that tells a CR changes no mark: plain Lean, no Go.
-/
import Derived.Test.YtbabcohidpcjjaaMkFlow
namespace Go.Proofs.Ytbabcohidpcjjaa
open Mem

/-! the bit that tells a CR -/
def crM (m : MkM) (b : Bool) : MkM := { m with cr := b }
theorem tag_cr (m : MkM) (e b : Bool) : tagF (crM m b) e = ((tagF m e).1, (tagF m e).2.1, (tagF m e).2.2.1, crM (tagF m e).2.2.2 b) := by
  unfold tagF
  simp only [show (crM m b).buf = m.buf from rfl, show (crM m b).closed = m.closed from rfl]
  obtain ⟨er, her⟩ : ∃ er, er = if (parseF (m.buf.take 2049) e).2.1 > 2048 ∨ ((parseF (m.buf.take 2049) e).2.1 < 0 ∧ 2048 < (m.buf.take 2049).length) then (41 : Int) else (parseF (m.buf.take 2049) e).2.2 := ⟨_, rfl⟩
  rw [← her]
  by_cases hr : er = 0
  · have hr' : ¬ er ≠ 0 := fun h => h hr
    simp only [if_neg hr']
    by_cases hn : (parseF (m.buf.take 2049) e).2.1 < 0
    · simp only [if_pos hn]
      cases h : m.closed
      · rfl
      · rfl
    · simp only [if_neg hn]
      cases e <;> rfl
  · have hr' : er ≠ 0 := hr
    simp only [if_pos hr']
    rfl
theorem later_cr (m : MkM) (b : Bool) : comLater (crM m b) = ((comLater m).1, (comLater m).2.1, (comLater m).2.2.1, crM (comLater m).2.2.2 b) := by
  unfold comLater
  simp only [show (crM m b).buf = m.buf from rfl, show (crM m b).closed = m.closed from rfl]
  by_cases h1 : 0 ≤ Lib.index m.buf comEnd ∧ (Lib.index m.buf comEnd2 < 0 ∨ Lib.index m.buf comEnd < Lib.index m.buf comEnd2)
  · rw [if_pos h1, if_pos h1]; rfl
  · rw [if_neg h1, if_neg h1]
    by_cases h2 : 0 ≤ Lib.index m.buf comEnd2
    · rw [if_pos h2, if_pos h2]; rfl
    · rw [if_neg h2, if_neg h2]
      cases h : m.closed <;> rfl
theorem com_cr (m : MkM) (b : Bool) : comF (crM m b) = ((comF m).1, (comF m).2.1, (comF m).2.2.1, crM (comF m).2.2.2 b) := by
  unfold comF
  simp only [show (crM m b).buf = m.buf from rfl, show (crM m b).closed = m.closed from rfl, show (crM m b).fresh = m.fresh from rfl]
  cases hf : m.fresh
  · exact later_cr m b
  · rw [if_pos rfl, if_pos rfl]
    by_cases h1 : ([62] : Str).isPrefixOf m.buf = true
    · rw [if_pos h1, if_pos h1]; rfl
    · rw [if_neg h1, if_neg h1]
      by_cases h2 : ([45, 62] : Str).isPrefixOf m.buf = true
      · rw [if_pos h2, if_pos h2]; rfl
      · rw [if_neg h2, if_neg h2]
        by_cases h3 : m.closed = false ∧ (m.buf = [] ∨ m.buf = [45])
        · rw [if_pos h3, if_pos h3]
        · rw [if_neg h3, if_neg h3]
          exact later_cr { m with fresh := false } b
theorem cd_cr (m : MkM) (b : Bool) : cdF (crM m b) = ((cdF m).1, (cdF m).2.1, (cdF m).2.2.1, crM (cdF m).2.2.2 b) := by
  unfold cdF
  simp only [show (crM m b).buf = m.buf from rfl, show (crM m b).closed = m.closed from rfl]
  by_cases h1 : 0 ≤ Lib.index m.buf cdEnd
  · rw [if_pos h1, if_pos h1]; rfl
  · rw [if_neg h1, if_neg h1]
    cases h : m.closed <;> rfl
theorem step_cr (m : MkM) (b : Bool) : stepF (crM m b) = ((stepF m).1, (stepF m).2.1, (stepF m).2.2.1, crM (stepF m).2.2.2 b) := by
  have hk : textF (crM m b) m.buf = textF m m.buf := textF_kin (m := m) (m' := crM m b) ⟨rfl, rfl, rfl⟩ rfl _ _ (Nat.le_refl _)
  unfold stepF
  rw [show (crM m b).buf = m.buf from rfl, hk]
  generalize textF m m.buf = p
  obtain ⟨t, r, is⟩ := p
  simp only
  by_cases ht : t ≠ []
  · rw [if_pos ht, if_pos ht]; rfl
  · rw [if_neg ht, if_neg ht]
    by_cases h2 : is = 2
    · rw [if_pos h2, if_pos h2]; exact tag_cr { m with buf := r } false b
    · rw [if_neg h2, if_neg h2]
      by_cases h3 : is = 3
      · rw [if_pos h3, if_pos h3]; exact tag_cr { m with buf := r } true b
      · rw [if_neg h3, if_neg h3]
        repeat' split
        all_goals rfl
theorem one_cr (m : MkM) (b : Bool) : oneF (crM m b) = ((oneF m).1, (oneF m).2.1, (oneF m).2.2.1, crM (oneF m).2.2.2 b) := by
  unfold oneF
  rw [show (crM m b).pass = m.pass from rfl]
  by_cases h0 : m.pass = 0
  · rw [if_pos h0, if_pos h0]; exact step_cr m b
  · rw [if_neg h0, if_neg h0]
    unfold passF
    rw [show (crM m b).pass = m.pass from rfl, show (crM m b).buf = m.buf from rfl, show (crM m b).closed = m.closed from rfl]
    by_cases h1 : m.pass = 1
    · rw [if_pos h1, if_pos h1]; exact com_cr m b
    · rw [if_neg h1, if_neg h1]
      by_cases h2 : m.pass = 2
      · rw [if_pos h2, if_pos h2]
        by_cases h3 : 0 ≤ Lib.indexByte m.buf 62
        · rw [if_pos h3, if_pos h3]; rfl
        · rw [if_neg h3, if_neg h3]
          cases h : m.closed <;> rfl
      · rw [if_neg h2, if_neg h2]; exact cd_cr m b
theorem switch_cr (m : MkM) (x : MarkD) (b : Bool) : switchF (crM m b) x = crM (switchF m x) b := by
  have hs : ∀ k, setF (crM m b) k x.name = crM (setF m k x.name) b := fun k => by unfold setF; split <;> rfl
  unfold switchF
  repeat' split
  all_goals first | rfl | exact hs _
theorem drain_cr (b : Bool) : ∀ (n : Nat) (m : MkM), doM m ≤ n → drainF (crM m b) = ((drainF m).1, crM (drainF m).2 b) := by
  intro n
  induction n using Nat.strongRecOn with
  | _ n ih =>
    intro m hm
    have e := one_cr m b
    by_cases he : m.err = 0
    · have he' : (crM m b).err = 0 := he
      cases ht : (oneF m).2.1
      · cases hs : (oneF m).2.2.1
        · have hl := one_less m (.inr hs)
          rw [drain_go he ht hs, drain_go he' (by rw [e]; exact ht) (by rw [e]; exact hs), e]
          exact ih _ (by omega) _ (Nat.le_refl _)
        · rw [drain_stop he ht hs, drain_stop he' (by rw [e]; exact ht) (by rw [e]; exact hs), e]
      · have hl := one_less m (.inl ht)
        rw [drain_told he ht, drain_told he' (by rw [e]; exact ht), e]
        simp only [switch_cr]
        have hd := doM_switch (oneF m).2.2.2 (oneF m).1
        rw [ih _ (by omega) (switchF (oneF m).2.2.2 (oneF m).1) (Nat.le_refl _)]
    · rw [drain_err he, drain_err (show (crM m b).err ≠ 0 from he)]
theorem drain_keeps_cr (m : MkM) : (drainF m).2.cr = m.cr := by
  have := drain_cr m.cr _ m (Nat.le_refl _)
  rw [show crM m m.cr = m from rfl] at this
  rw [this]
  rfl
theorem drain_closed : ∀ (n : Nat) (m : MkM), doM m ≤ n → (drainF m).2.closed = m.closed := by
  intro n
  induction n using Nat.strongRecOn with
  | _ n ih =>
    intro m hm
    by_cases he : m.err = 0
    · cases ht : (oneF m).2.1
      · cases hs : (oneF m).2.2.1
        · have hl := one_less m (.inr hs)
          rw [drain_go he ht hs]
          exact (ih _ (by omega) _ (Nat.le_refl _)).trans (one_closed m)
        · rw [drain_stop he ht hs]; exact one_closed m
      · have hl := one_less m (.inl ht)
        rw [drain_told he ht]
        have hd := doM_switch (oneF m).2.2.2 (oneF m).1
        exact (ih _ (by omega) (switchF (oneF m).2.2.2 (oneF m).1) (Nat.le_refl _)).trans ((switch_closed _ _).trans (one_closed m))
    · rw [drain_err he]

/-! texts in pieces -/
theorem putF_append : ∀ (s t : Str) (cr : Bool), putF cr (s ++ t) = putF cr s ++ putF (putC cr s) t ∧ putC cr (s ++ t) = putC (putC cr s) t
  | [], _, _ => ⟨rfl, rfl⟩
  | c :: s, t, cr => by
    obtain ⟨h1, h2⟩ := putF_append s t (c == 13)
    simp only [List.cons_append, putF, putC]
    rw [h1, h2, List.append_assoc]
    exact ⟨rfl, rfl⟩
def wholeM (t : Str) : MkM := { zeroM with buf := putF false t }
/-- a stream that has come so far: the marks it told, and it -/
structure Streamed (t : Str) (al : List MarkD) (m : MkM) : Prop where
  like : LikeO (drainF (wholeM t)) (al, crM m false)
  cr : m.err = 0 → m.cr = putC false t
  open' : m.closed = false
theorem Streamed.start : Streamed [] [] zeroM := by
  have ht : textF (wholeM []) [] = ([], [], 1) := by rw [textF]
  have ho : oneF (wholeM []) = (noM, false, true, zeroM) := by
    unfold oneF
    rw [if_pos (show (wholeM []).pass = 0 from rfl)]
    unfold stepF
    rw [show (wholeM []).buf = [] from rfl, ht]
    rfl
  have h : drainF (wholeM []) = ([], zeroM) := by
    have := drain_stop (m := wholeM []) rfl (by rw [ho]) (by rw [ho])
    rw [ho] at this
    exact this
  exact ⟨by rw [h]; exact ⟨rfl, fun _ => ⟨Alike.refl _, rfl⟩⟩, fun _ => rfl, rfl⟩
theorem whole_ext (t p : Str) : wholeM (t ++ p) = extM (wholeM t) (putF (putC false t) p) false := by
  unfold wholeM extM
  rw [(putF_append t p false).1]
  rfl
theorem Streamed.feed {t : Str} {al : List MarkD} {m : MkM} (h : Streamed t al m) (p : Str) :
    (m.err ≠ 0 → (drainF (feedF m p)).2.err = m.err ∧ ∀ al', Streamed (t ++ p) al' (drainF (feedF m p)).2) ∧ (m.err = 0 → Streamed (t ++ p) (al ++ (drainF (feedF m p)).1) (drainF (feedF m p)).2) := by
  have fl := flow _ (wholeM t) (Nat.le_refl _) rfl rfl (putF (putC false t) p) false
  rw [← whole_ext] at fl
  constructor
  · intro he
    have e1 : feedF m p = m := by unfold feedF; rw [if_neg he]
    rw [e1, drain_err he]
    refine ⟨rfl, fun al' => ⟨⟨?_, fun h0 => ?_⟩, fun h0 => absurd h0 he, h.open'⟩⟩
    · have hw : (drainF (wholeM t)).2.err = m.err := h.like.1
      rw [fl.1, drain_err (m := extM (drainF (wholeM t)).2 (putF (putC false t) p) false) (by show (drainF (wholeM t)).2.err ≠ 0; rw [hw]; exact he)]
      exact hw
    · exfalso
      have hw : (drainF (wholeM t)).2.err = m.err := h.like.1
      rw [fl.1, drain_err (m := extM (drainF (wholeM t)).2 (putF (putC false t) p) false) (by show (drainF (wholeM t)).2.err ≠ 0; rw [hw]; exact he)] at h0
      exact he (hw.symm.trans h0)
  · intro he
    have hw : (drainF (wholeM t)).2.err = m.err := h.like.1
    obtain ⟨ha, hm⟩ := h.like.2 (hw.trans he)
    have hm' : (drainF (wholeM t)).2 = crM m false := hm
    have e2 : extM (drainF (wholeM t)).2 (putF (putC false t) p) false = crM (feedF m p) false := by
      rw [hm']
      unfold feedF
      rw [if_pos he]
      show ({ m with cr := false, buf := m.buf ++ putF (putC false t) p, closed := false } : MkM) = { m with cr := false, buf := m.buf ++ putF m.cr p }
      rw [h.cr he]
      have := h.open'
      cases m
      simp only at this
      subst this
      rfl
    rw [e2, drain_cr false _ _ (Nat.le_refl _)] at fl
    refine ⟨⟨fl.1, fun h0 => ⟨((fl.2 h0).1).trans (ha.append (Alike.refl _)), (fl.2 h0).2⟩⟩, fun _ => ?_, ?_⟩
    · rw [drain_keeps_cr]
      unfold feedF
      rw [if_pos he, (putF_append t p false).2]
      show putC m.cr p = _
      rw [h.cr he]
    · rw [drain_closed _ _ (Nat.le_refl _)]
      unfold feedF
      rw [if_pos he]
      exact h.open'
/-- at the end -/
theorem marks_whole (t : Str) : marksF t = if (drainF { wholeM t with closed := true }).2.err ≠ 0 then ([], (drainF { wholeM t with closed := true }).2.err) else (joinF [] (drainF { wholeM t with closed := true }).1, 0) := by
  have fl := flow _ (wholeM t) (Nat.le_refl _) rfl rfl [] true
  have e1 : ∀ m : MkM, extM m [] true = { m with closed := true } := fun m => by unfold extM; rw [List.append_nil]
  rw [e1, e1] at fl
  have d1 : drainF { zeroM with buf := putF false t, cr := putC false t } = ((drainF (wholeM t)).1, crM (drainF (wholeM t)).2 (putC false t)) := drain_cr (putC false t) _ (wholeM t) (Nat.le_refl _)
  unfold marksF
  simp only [d1]
  have hcl : ({ crM (drainF (wholeM t)).2 (putC false t) with closed := true } : MkM) = crM { (drainF (wholeM t)).2 with closed := true } (putC false t) := rfl
  rw [hcl, drain_cr (putC false t) _ _ (Nat.le_refl _)]
  show (if (drainF (wholeM t)).2.err ≠ 0 then _ else if (drainF { (drainF (wholeM t)).2 with closed := true }).2.err ≠ 0 then _ else _) = _
  by_cases h1 : (drainF (wholeM t)).2.err ≠ 0
  · rw [if_pos h1]
    have := fl.1
    rw [drain_err (m := { (drainF (wholeM t)).2 with closed := true }) h1] at this
    rw [if_pos (by rw [this]; exact h1), this]
    rfl
  · rw [if_neg h1, fl.1]
    by_cases h2 : (drainF { (drainF (wholeM t)).2 with closed := true }).2.err ≠ 0
    · rw [if_pos h2, if_pos h2]
      rfl
    · rw [if_neg h2, if_neg h2]
      have h0 := (fl.2 (by rw [fl.1]; exact Classical.byContradiction h2)).1 []
      rw [h0]
theorem Streamed.close {t : Str} {al : List MarkD} {m : MkM} (h : Streamed t al m) :
    (drainF { m with closed := true }).2.err = (marksF t).2 ∧ ((marksF t).2 = 0 → m.err = 0 ∧ joinF [] (al ++ (drainF { m with closed := true }).1) = (marksF t).1) := by
  have fl := flow _ (wholeM t) (Nat.le_refl _) rfl rfl [] true
  have e1 : ∀ m : MkM, extM m [] true = { m with closed := true } := fun m => by unfold extM; rw [List.append_nil]
  rw [e1, e1] at fl
  have hw : (drainF (wholeM t)).2.err = m.err := h.like.1
  have mw := marks_whole t
  have hme : (marksF t).2 = (drainF { wholeM t with closed := true }).2.err := by
    rw [mw]
    split
    · rfl
    · rename_i h; exact (Classical.byContradiction fun hh => h (fun e => hh e.symm))
  by_cases he : m.err = 0
  · obtain ⟨ha, hm⟩ := h.like.2 (hw.trans he)
    have hm' : (drainF (wholeM t)).2 = crM m false := hm
    have e2 : drainF { (drainF (wholeM t)).2 with closed := true } = ((drainF { m with closed := true }).1, crM (drainF { m with closed := true }).2 false) := by
      rw [hm']
      exact drain_cr false _ { m with closed := true } (Nat.le_refl _)
    rw [e2] at fl
    have he2 : (drainF { wholeM t with closed := true }).2.err = (drainF { m with closed := true }).2.err := fl.1
    refine ⟨by rw [hme, he2], fun h0 => ⟨he, ?_⟩⟩
    rw [hme] at h0
    have h3 := (fl.2 h0).1 []
    rw [mw, if_neg (fun h => h h0), h3]
    exact (ha.append (Alike.refl _)).symm []
  · have hee : ({ m with closed := true } : MkM).err ≠ 0 := he
    have hee2 : ({ (drainF (wholeM t)).2 with closed := true } : MkM).err ≠ 0 := by show (drainF (wholeM t)).2.err ≠ 0; rw [hw]; exact he
    have := fl.1
    rw [drain_err hee2] at this
    have h4 : (drainF { wholeM t with closed := true }).2.err = m.err := this.trans hw
    rw [drain_err hee]
    exact ⟨by rw [hme, h4], fun h0 => absurd (h4.symm.trans (hme.symm.trans h0)) he⟩
theorem joinF_len : ∀ (l out : List MarkD), (joinF out l).length ≤ out.length + l.length
  | [], out => by rw [joinF]; simp
  | x :: l, out => by
    have push := joinF_len l (out ++ [x])
    rw [List.length_append] at push
    have same := joinF_len l out
    rw [joinF]
    simp only [List.length_cons, List.length_nil] at push ⊢
    split
    · omega
    · split
      · omega
      · split
        · rename_i y hy
          split
          · have := joinF_len l (out.dropLast ++ [{ y with text := y.text ++ x.text }])
            rw [List.length_append, List.length_dropLast] at this
            simp only [List.length_cons, List.length_nil] at this
            omega
          · omega
        · omega
theorem marksF_len (t : Str) : (marksF t).1.length ≤ 6 * t.length + 1 := by
  have hp := putF_len t false
  rw [marks_whole]
  obtain ⟨m, hm⟩ : ∃ m : MkM, m = { wholeM t with closed := true } := ⟨_, rfl⟩
  rw [← hm]
  have hb : m.buf = putF false t := by rw [hm]; rfl
  have hn : m.name.length ≤ 4294967280 := by rw [hm]; exact Nat.zero_le _
  have hr := (drainF_room _ m (Nat.le_refl _) hn).2.1
  have hd := doM_le m
  rw [hb] at hd
  split
  · exact Nat.zero_le _
  · refine Nat.le_trans (joinF_len (drainF m).1 []) ?_
    simp only [List.length_nil]
    omega
end Go.Proofs.Ytbabcohidpcjjaa
