/-
  Contract: (*open.Tree).Text, the whole; that a tree stays one by it.
-/
import Derived.Test.YtidbihdnginmcaaOpenL
namespace Go.Proofs.Ytidbihdnginmcaa
open Go.RowKit Mem

theorem elemF_nat {T : TreeD} {n : Int} (h : elemF T n = true) : ∃ k : Nat, ∃ h : k < T.nodes.length, n = k ∧ 1 ≤ k ∧ T.nodes[k].elem = true := by
  have hi := isF_lt (T := T) (a := n) (by unfold elemF at h; exact (Bool.and_eq_true_iff.1 h).1)
  obtain ⟨k, rfl⟩ := Int.eq_ofNat_of_zero_le (by omega : 0 ≤ n)
  have hk : k < T.nodes.length := by omega
  exact ⟨k, hk, rfl, by omega, by rw [← elemF_of T k (by omega) hk]; exact h⟩

theorem prevF_of {T : TreeD} (hw : WF T) {a i : Nat} (ha : a < T.nodes.length) (hi : 0 < i) (hik : i ≤ (kidsF T a).length) :
    ∃ (k : Nat) (hk : k < T.nodes.length) (hj : i - 1 < T.nodes[a].kids.length), T.nodes[a].kids[i - 1] = k ∧ prevF T a i = k ∧ elemF T k = T.nodes[k].elem ∧ 1 ≤ k := by
  have hj : i - 1 < (kidsF T a).length := by omega
  have hm := hw.kid a ha _ (List.getElem_mem hj)
  obtain ⟨k, hk⟩ := Int.eq_ofNat_of_zero_le (by omega : 0 ≤ (kidsF T a)[i - 1])
  have hkl : k < T.nodes.length := by omega
  have hk1 : 1 ≤ k := by omega
  have hkk := kidsF_of T a ha
  have hj' : i - 1 < T.nodes[a].kids.length := by rw [← hkk]; exact hj
  refine ⟨k, hkl, hj', ?_, ?_, elemF_of T k hk1 hkl, hk1⟩
  · rw [← hk]
    simp only [hkk]
  · simp [prevF, hj, hk]

theorem Text_any (T : TreeD) (tb g : Nat) (w : World) (a b : Int) (s : ByteArray) (hw : WF T) (hn : T.nodes.length ≤ 1048576) (hts : ∀ i (h : i < T.nodes.length), T.nodes[i].text.size + s.size ≤ 9223372036854775807) (h : TreeO w tb g T) :
    Calls Try.prog 47 #[.pointer (some ⟨tb, 0, none⟩), .int .i64 a, .int .i64 b, .string s] w fun e w' => e = .returned (.int .i64 (textE T a b s).2) ∧ ∃ g', TreeO w' tb g' (textE T a b s).1 ∧ Keeps (Two tb g) w w' ∧ (g' = g ∨ w.heap.size ≤ g') := by
  cases hok : (holdsF T a && decide (0 ≤ placeF T a b))
  · have he : textE T a b s = (T, 47) := by rw [textE, hok]; rfl
    rw [he]
    exact (text_no T tb g w a b s hw.pos h hok).mono fun e w' ⟨h1, h2⟩ => by
      subst h2
      exact ⟨h1, g, h, Keeps.refl _ _, .inl rfl⟩
  · have he : textE T a b s = if s.size = 0 then (T, 0) else textAt T a b s := by rw [textE, hok]; rfl
    rw [he]
    obtain ⟨h1, h4⟩ := Bool.and_eq_true_iff.1 hok
    have h4 := of_decide_eq_true h4
    have ha := holdsF_lt hw.pos h1
    obtain ⟨a, rfl⟩ := Int.eq_ofNat_of_zero_le ha.1
    have ha' : a < T.nodes.length := by omega
    by_cases hs : s.size = 0
    · rw [if_pos hs]
      exact (text_empty T tb g w a b s ha' h h1 h4 hs).mono fun e w' ⟨h1, h2⟩ => by
        subst h2
        exact ⟨h1, g, h, Keeps.refl _ _, .inl rfl⟩
    · rw [if_neg hs]
      obtain ⟨i, hi, hik⟩ := placeF_nat T a b h4
      have hks := kids_short hw a ha'
      have hkk := kidsF_of T a ha'
      have hin : (placeF T a b).toNat = i := by rw [hi]; rfl
      rw [textAt, hin]
      by_cases hp : 0 < i ∧ elemF T (prevF T a i) = false
      · rw [if_pos hp]
        obtain ⟨k, hk, hj, e1, e2, e3, _⟩ := prevF_of hw ha' hp.1 hik
        rw [e2] at hp ⊢
        obtain ⟨j, rfl⟩ : ∃ j, i = j + 1 := ⟨i - 1, by omega⟩
        exact (text_longer T tb g w a j k b s ha' hk h h1 (by rw [hi]; omega) hs _ rfl (by simpa using hj) (by simpa using e1) (by rw [← hkk]; omega) (by rw [← e3]; exact hp.2) (hts k hk)).mono fun e w' ⟨h1, h2, h3⟩ => ⟨h1, g, h2, h3, .inl rfl⟩
      · rw [if_neg hp]
        have hprev : 0 < i → ∃ (l : List Int) (k : Nat) (hk : k < T.nodes.length) (hj : i - 1 < l.length), l = T.nodes[a].kids ∧ l[i - 1] = k ∧ l.length ≤ 2097152 ∧ T.nodes[k].elem = true := by
          intro h0
          obtain ⟨k, hk, hj, e1, e2, e3, _⟩ := prevF_of hw ha' h0 hik
          refine ⟨_, k, hk, hj, rfl, e1, by rw [← hkk]; omega, ?_⟩
          rw [← e3, ← e2]
          cases hh : elemF T (prevF T a i)
          · exact absurd ⟨h0, hh⟩ hp
          · rfl
        by_cases hm : (T.nodes.length : Int) - 1 < T.most
        · rw [if_pos hm]
          exact text_new T tb g w a i b s ha' hn h h1 hi hs hprev hik (by omega) hm
        · rw [if_neg hm]
          exact text_full T tb g w a i b s ha' hn h h1 hi hs hprev hm

theorem insert_new_wf {T : TreeD} (hw : WF T) (d : ND) (hp : d.parent = -1) (hk : d.kids = []) {a i : Nat} (ha : a < T.nodes.length) (hH : holdsF T a = true) : WF (insertF (addF T d) a i T.nodes.length) := by
  have hl : (addF T d).nodes.length = T.nodes.length + 1 := by simp [addF]
  have hpos := hw.pos
  refine insertF_wf (addF_wf hw d hp hk) (by omega) (by omega) (by omega) (by rw [addF_holds T d a ha]; exact hH) (by simp [addF, parentF, hp]) fun hr => ?_
  have key : ∀ m : Int, Reach (addF T d) (T.nodes.length : Int) m → m < T.nodes.length → False := by
    intro m hm
    induction hm with
    | here => intro h; omega
    | @up m h0 _ ih =>
      intro hlt
      obtain ⟨k, rfl⟩ := Int.eq_ofNat_of_zero_le (by omega : 0 ≤ m)
      refine ih ?_
      rw [addF_parent T d k (by omega)]
      exact (hw.par k (by omega)).2
  exact key a hr (by omega)
theorem textE_wf {T : TreeD} (hw : WF T) (a b : Int) (s : ByteArray) : WF (textE T a b s).1 ∧ (textE T a b s).1.most = T.most := by
  unfold textE
  split
  · rename_i hok
    obtain ⟨h1, h4⟩ := Bool.and_eq_true_iff.1 hok
    have ha := holdsF_lt hw.pos h1
    obtain ⟨a, rfl⟩ := Int.eq_ofNat_of_zero_le ha.1
    have ha' : a < T.nodes.length := by omega
    obtain ⟨i, hi, hik⟩ := placeF_nat T a b (of_decide_eq_true h4)
    have hin : (placeF T a b).toNat = i := by rw [hi]; rfl
    split
    · exact ⟨hw, rfl⟩
    · rw [textAt, hin]
      split
      · rename_i hp
        obtain ⟨k, hk, hj, e1, e2, e3, _⟩ := prevF_of hw ha' hp.1 hik
        rw [e2]
        exact ⟨addText_wf hw k s, rfl⟩
      · split
        · exact ⟨insert_new_wf hw (textN s) rfl rfl ha' h1, rfl⟩
        · exact ⟨hw, rfl⟩
  · exact ⟨hw, rfl⟩
end Go.Proofs.Ytidbihdnginmcaa
