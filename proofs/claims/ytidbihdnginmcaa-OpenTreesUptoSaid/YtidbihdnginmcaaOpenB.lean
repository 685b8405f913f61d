/-
  Contracts: (*open.Tree).Kids, What: what each tells is new memory; the world behind has new blocks alone.
-/
import Derived.Test.YtidbihdnginmcaaOpenA
namespace Go.Proofs.Ytidbihdnginmcaa
open Go.RowKit Mem

def kidsQ (T : TreeD) (n : Int) : List Int := if 0 ≤ n ∧ n < T.nodes.length then kidsF T n else []
theorem info_int : (Try.prog.info? 3).map (fun i => (i.zero, i.size, i.bytes)) = some (some (.int .i64 0), 1, 8) := by kernel_rfl

section
variable (T : TreeD) (tb g : Nat) (w : World)
set_option maxRecDepth 100000 in
set_option maxHeartbeats 1000000 in
theorem kids_any (n : Int) (h : TreeO w tb g T) (hsz : ∀ i (h : i < T.nodes.length), T.nodes[i].kids.length ≤ 2097152) :
    Calls Try.prog 13 #[.pointer (some ⟨tb, 0, none⟩), .int .i64 n] w fun e w' => ∃ v, e = .returned v ∧ w'.ownsRow w.heap.size 3 1 v (kidsQ T n).length (intsV (kidsQ T n)) ∧ Below w.heap.size w w' := by
  obtain ⟨cap, h1, h2, c0, _, _, _⟩ := h.head
  unfold maxLen at h2
  by_cases hn : n < 0
  · have HQ : Hid (kidsQ T n = []) := by show _ = _; rw [kidsQ, if_neg (by omega)]
    clear h
    go_enter Try.func13, Try.ntmps13
    go_wp2_with fail
    go_ret
    exact ⟨_, rfl, by rw [HQ.out]; exact World.ownsRow_nil _ _ _ _, Below.refl _ _⟩
  · by_cases hge : (T.nodes.length : Int) ≤ n
    · have HQ : Hid (kidsQ T n = []) := by show _ = _; rw [kidsQ, if_neg (by omega)]
      clear h
      go_enter Try.func13, Try.ntmps13
      go_wp2_with fail
      go_ret
      exact ⟨_, rfl, by rw [HQ.out]; exact World.ownsRow_nil _ _ _ _, Below.refl _ _⟩
    · obtain ⟨i, rfl⟩ := Int.eq_ofNat_of_zero_le (by omega : 0 ≤ n)
      have hlt : i < T.nodes.length := by omega
      obtain ⟨aa, ac, ka, kc, _, _, _, hk1, hk2, hk3, _, hk, hc, _⟩ := h.node hlt
      obtain ⟨ht1, ht2⟩ := h.lt
      have d6 := hc 6 _ rfl
      have hszi := hsz i hlt
      obtain ⟨l, hl⟩ : ∃ l, l = T.nodes[i].kids := ⟨_, rfl⟩
      rw [← hl] at d6 hk hk1 hszi
      have HQ : Hid (kidsQ T i = l) := by show _ = _; rw [kidsQ, if_pos (by omega), kidsF_of T i hlt, hl]
      have HK := Lib.hid (hk.at.below ((Below.refl _ _).alloc (Nat.le_refl _) (.cells #[] 3)))
      have HE : Hid ((w.alloc (.cells #[] 3)).ownsRow w.heap.size 3 1 (.slice (some ⟨w.heap.size, 0, none⟩) 0 0) 0 []) := World.ownsRow_lit w #[] 0 (Nat.le_refl _) (Nat.zero_le _) rfl
      have H3 := Lib.hid hk3.nil
      obtain ⟨i0, hi, hz0, hz1, hz2⟩ := info_parts info_int
      have b0 : 0 + l.length ≤ maxLen := by unfold maxLen; omega
      have b1 : (0 + l.length) * 8 ≤ 140737488355328 := by omega
      have hnl : (intsV l).length = l.length * 1 := by rw [intsV_length, Nat.mul_one]
      have HNL := Lib.hid hnl
      have HZ : Hid (w.heap.size ≤ (w.alloc (.cells #[] 3)).heap.size) := by show _ ≤ _; simp
      clear h hc hk hl hk3 hsz hnl
      go_enter Try.func13, Try.ntmps13
      go_wp2_with (at_builtin; refine wpList_append_slice _ rfl _ _ 32 rfl w.heap.size 3 i0 _ 1 8 Try.underlying32 hi hz0 hz1 hz2 rfl (by decide) _ 0 [] rfl HE.out ka l.length kc (intsV l) rfl HNL.out H3.out HK.out (intsV_one l) b0 b1 HZ.out ?_; intro v2 w2 hown2 hgr2; simp only [Nat.zero_add, List.nil_append] at hown2; have HO2 := Lib.hid hown2; have HG2 := Lib.hid hgr2; clear hown2 hgr2)
      go_ret
      exact ⟨_, rfl, by rw [HQ.out]; exact HO2.out, ((Below.refl _ _).alloc (Nat.le_refl _) _).grown HG2.out HZ.out (fun b h => (HE.out.lt b h).1)⟩
end
end Go.Proofs.Ytidbihdnginmcaa
