/-
  Contract: (*open.Tree).Like: an element like another one is added, or refused.
-/
import Derived.Test.YtidbihdnginmcaaOpenF
namespace Go.Proofs.Ytidbihdnginmcaa
open Go.RowKit Mem

def likeF (T : TreeD) (n : Int) : TreeD × Int × Int := if elemF T n then mkF T (elemN (spaceQ T n) (nameQ T n) (attrsQ T n)) else (T, 0, 47)

theorem attrsQ_short {T : TreeD} (hat : ∀ i (h : i < T.nodes.length), T.nodes[i].attrs.length ≤ 1048576) (n : Int) : (attrsQ T n).length ≤ 1048576 := by
  unfold attrsQ
  split
  · by_cases h : n.toNat < T.nodes.length
    · simpa [h] using hat _ h
    · simp [h]
  · exact Nat.zero_le _

set_option maxRecDepth 100000 in
set_option maxHeartbeats 1000000 in
theorem Like_any (T : TreeD) (tb g : Nat) (w : World) (n : Int) (hn : T.nodes.length ≤ 1048576) (hat : ∀ i (h : i < T.nodes.length), T.nodes[i].attrs.length ≤ 1048576) (h : TreeO w tb g T) :
    Calls Try.prog 50 #[.pointer (some ⟨tb, 0, none⟩), .int .i64 n] w fun e w' =>
      ∃ g', Keeps (Two tb g) w w' ∧ (g' = g ∨ w.heap.size ≤ g') ∧ e = .returned (.tuple #[.int .i64 (likeF T n).2.1, .int .i64 (likeF T n).2.2]) ∧ TreeO w' tb g' (likeF T n).1 := by
  have HC := Lib.hid (elem_any T tb g w n h)
  have HT := Lib.hid h
  cases he : elemF T n
  · have HP : Hid (likeF T n = (T, 0, 47)) := by show _ = _; rw [likeF, he]; rfl
    rw [he] at HC
    clear h
    go_enter Try.func50, Try.ntmps50
    go_wp2_with (go_at_call 91; go_must (refine HC.out.mono ?_; rintro e w1 ⟨rfl, rfl⟩))
    go_ret2
    rw [HP.out]
    exact ⟨g, Keeps.refl _ _, .inl rfl, rfl, HT.out⟩
  · obtain ⟨sp, hsp⟩ : ∃ x, x = spaceQ T n := ⟨_, rfl⟩
    obtain ⟨nm, hnm⟩ : ∃ x, x = nameQ T n := ⟨_, rfl⟩
    obtain ⟨l, hl⟩ : ∃ x, x = attrsQ T n := ⟨_, rfl⟩
    have HP : Hid (likeF T n = mkF T (elemN sp nm l)) := by show _ = _; rw [likeF, he, hsp, hnm, hl]; rfl
    have HW := Lib.hid (What_any T tb g w n hat h)
    rw [← hsp, ← hnm, ← hl] at HW
    have hlen := attrsQ_short hat n
    rw [← hl] at hlen
    rw [he] at HC
    clear h hat hsp hnm hl
    go_enter Try.func50, Try.ntmps50
    go_wp2_with (go_at_call 91; go_must (refine HC.out.mono ?_; rintro e w1 ⟨rfl, rfl⟩))
    refine HW.out.mono ?_
    rintro e w1 ⟨v, rfl, ho, hb⟩
    obtain ⟨a, c, rfl, _, _, ha, hat1⟩ := own_at ho
    have HB := Lib.hid hb
    have HE := Lib.hid (Elem_any T tb g w1 sp nm l _ a c rfl ha hlen hn (HT.out.below hb) hat1)
    clear ho hb ha hat1
    go_wp2_with fail
    refine HE.out.mono ?_
    rintro e w2 ⟨g', hK, hg, rfl, hT⟩
    have HK := Lib.hid ((Keeps.ofBelow HB.out).trans hK)
    have HT2 := Lib.hid hT
    have hs := HB.out.size
    have hg2 : g' = g ∨ w.heap.size ≤ g' := hg.imp id (Nat.le_trans hs)
    clear hK hT hs hg
    go_wp2_with fail
    go_ret2
    rw [HP.out]
    exact ⟨g', HK.out, hg2, rfl, HT2.out⟩
end Go.Proofs.Ytidbihdnginmcaa
