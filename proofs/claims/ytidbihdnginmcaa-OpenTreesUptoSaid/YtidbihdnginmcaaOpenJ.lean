/-
  Contract: (*open.Tree).Take, the whole; and plain facts on places.
-/
import Derived.Test.YtidbihdnginmcaaOpenI
namespace Go.Proofs.Ytidbihdnginmcaa
open Go.RowKit Mem

theorem take_none (T : TreeD) (tb g : Nat) (w : World) (n : Nat) (hn1 : 1 ≤ n) (hn : n < T.nodes.length) (hp : parentF T n = -1) (h : TreeO w tb g T) :
    Calls Try.prog 18 #[.pointer (some ⟨tb, 0, none⟩), .int .i64 n] w fun e w' => e = .returned (.int .i64 0) ∧ TreeO w' tb g (takeF T n) ∧ Keeps (Two tb g) w w' := by
  obtain ⟨cap, h1, h2, c0, _, _, _⟩ := h.head
  have HI := Lib.hid (is_any T tb g w n h)
  have his : isF T n = true := by simp [isF]; omega
  rw [his] at HI
  have d5 := node5 h hn
  rw [hp] at d5
  have f5 := (tree_cells h hn).2.2
  have HT := Lib.hid (tree_parent h hn (-1))
  have HF : Hid (modN T n (setParent (-1)) = takeF T n) := Lib.hid (by rw [takeF, kidsOff, hp, if_neg (by omega)])
  have HK := Lib.hid ((Keeps.refl (Two tb g) w).set (p := ⟨g, n * 7 + 5, none⟩) (.inl (.inr rfl)) (.int .i64 (-1)))
  unfold maxLen at h2
  clear h his
  go_enter Try.func18, Try.ntmps18
  go_wp2_with (first | (go_at_call 56; go_must (refine HI.out.mono ?_; rintro e w1 ⟨rfl, rfl⟩)))
  go_ret
  exact ⟨rfl, HF.out ▸ HT.out, HK.out⟩

theorem take_no (T : TreeD) (tb g : Nat) (w : World) (n : Int) (hn : isF T n = false) (h : TreeO w tb g T) :
    Calls Try.prog 18 #[.pointer (some ⟨tb, 0, none⟩), .int .i64 n] w fun e w' => e = .returned (.int .i64 47) ∧ w = w' := by
  have HI := Lib.hid (is_any T tb g w n h)
  rw [hn] at HI
  clear h
  go_enter Try.func18, Try.ntmps18
  go_wp2_with (first | (go_at_call 56; go_must (refine HI.out.mono ?_; rintro e w1 ⟨rfl, rfl⟩)))
  go_ret
  exact ⟨rfl, rfl⟩

theorem take_yes (T : TreeD) (tb g : Nat) (w : World) (n : Nat) (hn1 : 1 ≤ n) (hn : n < T.nodes.length) (hw : WF T) (hlen : T.nodes.length ≤ 2097152) (h : TreeO w tb g T) :
    Calls Try.prog 18 #[.pointer (some ⟨tb, 0, none⟩), .int .i64 n] w fun e w' => e = .returned (.int .i64 0) ∧ TreeO w' tb g (takeF T n) ∧ Keeps (Two tb g) w w' := by
  have hpar := hw.par n hn
  by_cases hp : 0 ≤ parentF T n
  · obtain ⟨a, ha⟩ := Int.eq_ofNat_of_zero_le hp
    have ha' : a < T.nodes.length := by omega
    have hm := hw.mem n hn hp
    rw [ha] at hm
    obtain ⟨k, k1, k2, k3, _⟩ := idxF_found (kidsF T a) n 0 hm
    have hk := kids_short hw a ha'
    have hnd := hw.nodup a ha'
    have hpl : placeF T a n = k := by
      rw [placeF, if_neg (by omega), show (0 : Int) = ((0 : Nat) : Int) from rfl, k2]
      simp
    rw [kidsF_of T a ha'] at k1 k3 hk hnd
    obtain ⟨aa, ac, ka, kc, _, _, _, hk1, hk2, hk3, _, hkat, hc, hf⟩ := h.node ha'
    rcases hk3 with ⟨rfl, rfl⟩ | ⟨kb, rfl⟩
    · omega
    · exact take_kid T tb g w n a k hn1 hn ha' ha _ rfl k1 (by omega) hpl (filter_take_drop _ _ k hnd k3).symm h aa ac kb kc hk1 hk2 hkat hc hf
  · exact take_none T tb g w n hn1 hn (by omega) h

theorem Take_any (T : TreeD) (tb g : Nat) (w : World) (n : Int) (hw : WF T) (hlen : T.nodes.length ≤ 2097152) (h : TreeO w tb g T) :
    Calls Try.prog 18 #[.pointer (some ⟨tb, 0, none⟩), .int .i64 n] w fun e w' => e = .returned (.int .i64 (takeE T n).2) ∧ TreeO w' tb g (takeE T n).1 ∧ Keeps (Two tb g) w w' := by
  cases hi : isF T n
  · have he : takeE T n = (T, 47) := by rw [takeE, hi]; rfl
    rw [he]
    exact (take_no T tb g w n hi h).mono fun e w' ⟨h1, h2⟩ => by
      subst h2
      exact ⟨h1, h, Keeps.refl _ _⟩
  · have he : takeE T n = (takeF T n, 0) := by rw [takeE, hi]; rfl
    have hb := isF_lt hi
    obtain ⟨i, rfl⟩ := Int.eq_ofNat_of_zero_le (by omega : 0 ≤ n)
    rw [he]
    exact take_yes T tb g w i (by omega) (by omega) hw hlen h

theorem idxF_mem : ∀ (l : List Int) (x z : Int), 0 ≤ idxF l x z → x ∈ l
  | [], _, _, h => by simp [idxF] at h
  | y :: r, x, z, h => by
    unfold idxF at h
    split at h
    · rename_i e; rw [e]; exact List.mem_cons_self
    · exact List.mem_cons_of_mem _ (idxF_mem r x _ h)
theorem placeF_nat (T : TreeD) (a b : Int) (h : 0 ≤ placeF T a b) : ∃ k : Nat, placeF T a b = k ∧ k ≤ (kidsF T a).length := by
  obtain ⟨k, hk⟩ := Int.eq_ofNat_of_zero_le h
  refine ⟨k, hk, ?_⟩
  have : placeF T a b ≤ (kidsF T a).length := by
    unfold placeF
    split
    · exact Int.le_refl _
    · have := idxF_lt (kidsF T a) b 0 (by omega)
      omega
  omega
theorem placeF_iff (T : TreeD) (a b : Int) : 0 ≤ placeF T a b ↔ b = 0 ∨ b ∈ kidsF T a := by
  unfold placeF
  split
  · rename_i e
    simp [e]
  · rename_i e
    constructor
    · exact fun h => .inr (idxF_mem _ _ _ h)
    · rintro (h | h)
      · exact absurd h e
      · obtain ⟨k, _, h2, _⟩ := idxF_found (kidsF T a) b 0 h
        rw [show (0 : Int) = ((0 : Nat) : Int) from rfl, h2]
        omega
theorem place_take {T : TreeD} (hw : WF T) {n a : Nat} {b : Int} (hn : n < T.nodes.length) (ha : a < T.nodes.length) (hb : b ≠ n) (h : 0 ≤ placeF T a b) : 0 ≤ placeF (takeF T n) a b := by
  rw [placeF_iff] at h ⊢
  rcases h with h | h
  · exact .inl h
  · right
    rw [takeF_kids hw hn a ha]
    split
    · simp only [List.mem_filter, bne_iff_ne]; exact ⟨h, hb⟩
    · exact h
end Go.Proofs.Ytidbihdnginmcaa
