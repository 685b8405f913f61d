/-
  Contracts: what only reads the document's tree: (*colanderref14.Tree).Len, IsElem, at: what each computes; the world stays.
-/
import Derived.Test.YtidbihdnginmcaaOpenK
import Derived.Test.YtidbihdnginmcaaRefMem
namespace Go.Proofs.Ytidbihdnginmcaa
open Go.RowKit Mem

def RefO (w : World) (rb gn gk : Nat) (T : TreeD) : Prop := ∃ capn capk Ns Ks, RefAt 97 93 32 w rb gn gk T capn capk Ns Ks
theorem RefO.below {w w' : World} {rb gn gk : Nat} {T : TreeD} (h : RefO w rb gn gk T) (hb : Below w.heap.size w w') : RefO w' rb gn gk T := by
  obtain ⟨a, b, c, d, h⟩ := h
  exact ⟨a, b, c, d, h.below hb⟩
/-- its three cells -/
theorem RefO.head {w : World} {rb gn gk : Nat} {T : TreeD} (h : RefO w rb gn gk T) : ∃ capn capk, T.nodes.length ≤ capn ∧ capn ≤ maxLen ∧ T.nodes.length ≤ capk ∧ capk ≤ maxLen ∧
    w.cell? ⟨rb, 0, none⟩ = some (.slice (some ⟨gn, 0, none⟩) T.nodes.length capn) ∧ w.cell? ⟨rb, 1, none⟩ = some (.slice (some ⟨gk, 0, none⟩) T.nodes.length capk) ∧ w.cell? ⟨rb, 2, none⟩ = some (.int .i64 T.most) ∧
    rb < w.heap.size ∧ gn < w.heap.size ∧ gk < w.heap.size := by
  obtain ⟨capn, capk, Ns, Ks, h⟩ := h
  obtain ⟨h1, h2, h3, h4⟩ := h.caps
  have e0 := cell_of_row w rb 0 _ _ _ h.head
  have e1 := cell_of_row w rb 1 _ _ _ h.head
  have e2 := cell_of_row w rb 2 _ _ _ h.head
  exact ⟨capn, capk, h1, h2, h3, h4, e0, e1, e2, h.lt⟩

section
variable (T : TreeD) (rb gn gk : Nat) (w : World)
theorem rlen_any (h : RefO w rb gn gk T) : Calls Try.prog 22 #[.pointer (some ⟨rb, 0, none⟩)] w fun e w' => e = .returned (.int .i64 ((T.nodes.length : Int) - 1)) ∧ w = w' := by
  obtain ⟨capn, capk, p1, p2, _, _, c0, _, _, _⟩ := h.head
  unfold maxLen at p2
  clear h
  go_enter Try.func22, Try.ntmps22
  go_wp2
  go_ret
  exact ⟨rfl, rfl⟩

theorem relem_any (n : Int) (h : RefO w rb gn gk T) : Calls Try.prog 60 #[.pointer (some ⟨rb, 0, none⟩), .int .i64 n] w fun e w' => e = .returned (.bool (elemF T n)) ∧ w = w' := by
  obtain ⟨capn, capk, p1, p2, _, _, c0, _, _, _⟩ := h.head
  unfold maxLen at p2
  by_cases hn : 1 ≤ n ∧ n < (T.nodes.length : Int)
  · obtain ⟨i, rfl⟩ := Int.eq_ofNat_of_zero_le (by omega : 0 ≤ n)
    have hlt : i < T.nodes.length := by omega
    have HP : Hid (elemF T i = T.nodes[i].elem) := by show _ = _; exact elemF_of T i (by omega) hlt
    obtain ⟨_, _, _, _, h'⟩ := h
    obtain ⟨aa, ac, _, _, _, _, hc, _⟩ := h'.node hlt
    have d0 := hc 0 _ rfl
    rw [Nat.add_zero] at d0
    have h1 : decide ((0 : Int) < (i : Int)) = true := decide_eq_true (by omega)
    have h2 : decide ((i : Int) < (T.nodes.length : Int)) = true := decide_eq_true (by omega)
    clear h' hc
    go_enter Try.func60, Try.ntmps60
    go_wp2_with fail
    go_ret
    exact ⟨ret_bool HP.out.symm, rfl⟩
  · have HP : Hid (elemF T n = false) := by
      show _ = _
      have : isF T n = false := by
        cases hi : isF T n
        · rfl
        · exact absurd (isF_lt hi) hn
      rw [elemF, this]; rfl
    clear h
    by_cases h0 : 0 < n
    · have h2 : ¬ (n < (T.nodes.length : Int)) := by omega
      go_enter Try.func60, Try.ntmps60
      go_wp2_with fail
      go_ret
      exact ⟨ret_bool HP.out.symm, rfl⟩
    · go_enter Try.func60, Try.ntmps60
      go_wp2_with fail
      go_ret
      exact ⟨ret_bool HP.out.symm, rfl⟩

theorem rat_any (parent : Nat) (before : Int) (hp : parent < T.nodes.length) (hpos : ∀ k ∈ kidsF T parent, 1 ≤ k) (h : RefO w rb gn gk T) :
    Calls Try.prog 94 #[.pointer (some ⟨rb, 0, none⟩), .int .i64 parent, .int .i64 before] w fun e w' => e = .returned (.int .i64 (placeF T parent before)) ∧ w = w' := by
  obtain ⟨capn, capk, _, _, p1, p2, _, c1, _, _⟩ := h.head
  obtain ⟨_, _, _, _, h'⟩ := h
  obtain ⟨ka, kc, hk1, hk2, _, hk, d, _⟩ := h'.kid hp
  have hl' := kidsF_of T parent hp
  obtain ⟨l, hl⟩ : ∃ l, l = T.nodes[parent].kids := ⟨_, rfl⟩
  rw [← hl] at d hk hk1 hl'
  rw [hl'] at hpos
  have HK := Lib.hid hk.at
  have HP : Hid (placeF T parent before = if before = 0 then (l.length : Int) else idxF l before 0) := by show _ = _; rw [placeF, hl']
  have HPos := Lib.hid hpos
  unfold maxLen at p2 hk2
  clear h' hk hl hl' hpos
  go_enter Try.func94, Try.ntmps94
  go_wp2_with fail
  go_loop [7] (fun i => ∃ k : Nat, k ≤ l.length ∧ i = .int .i64 k ∧ idxF l before 0 = idxF (l.drop k) before k) (fun i => l.length - (intOf i).toNat)
  case atStart => exact ⟨0, Nat.zero_le _, rfl, rfl⟩
  case round =>
    obtain ⟨k, hk, rfl, hv⟩ := hrel
    have HV := Lib.hid hv
    clear hv
    by_cases hlt : k < l.length
    · obtain ⟨b, o, rfl, e1⟩ := HK.out _ _ (intsV_get l k hlt)
      by_cases he : l[k] = before
      · have he' : (l[k] == before) = true := by simpa using he
        have HE := Lib.hid he
        clear he
        go_wp2_with fail
        go_ret
        refine ⟨ret_int ?_, rfl⟩
        have h1 := HPos.out l[k] (List.getElem_mem hlt)
        rw [HP.out, if_neg (by have := HE.out; omega), HV.out, idxF_hit l before k hlt HE.out]
      · have he' : (l[k] == before) = false := by simpa using he
        have HE := Lib.hid he
        clear he
        go_wp2_with fail
        go_round
        case rel => exact ⟨k + 1, by omega, by go_num, by rw [HV.out, idxF_step l before k hlt HE.out]; rfl⟩
        case measure => simp [intOf]; omega
    · by_cases h0 : before = 0
      · subst h0
        go_wp2_with fail
        go_ret
        exact ⟨ret_int (by rw [HP.out]; simp), rfl⟩
      · have h0' : (before == 0) = false := by simpa using h0
        have HN := Lib.hid h0
        clear h0
        go_wp2_with fail
        go_ret
        exact ⟨ret_int (by rw [HP.out, if_neg HN.out, HV.out, List.drop_of_length_le (by omega)]; rfl), rfl⟩
end
end Go.Proofs.Ytidbihdnginmcaa
