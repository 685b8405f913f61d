/-
  Contract: (*open.Tree).Read, the whole, of any number.
-/
import Derived.Test.YtidbihdnginmcaaOpenX
namespace Go.Proofs.Ytidbihdnginmcaa
open Go.RowKit Mem

theorem read_deep : ∀ (d : Nat) (T : TreeD) (tb g : Nat) (w : World) (i : Nat), WF T → T.nodes.length ≤ 1000000 → (∀ d ∈ T.nodes, d.attrs.length ≤ 1048576) → 1 ≤ i → i < T.nodes.length → Deep d T i → TreeO w tb g T →
    Calls Try.prog 14 #[.pointer (some ⟨tb, 0, none⟩), .int .i64 i] w fun e w' => ∃ cs, e = .returned (.tuple #[.agg cs.toArray, .int .i64 0]) ∧ NodeC (· < w.heap.size) w' cs (readN d T i) ∧ Below w.heap.size w w'
  | 0, _, _, _, _, _, _, _, _, _, _, h, _ => h.elim
  | d + 1, T, tb, g, w, i, hw, hl, ha, h1, hi, hd, h => by
    cases he : T.nodes[i].elem
    · rw [readN_text d T i hi he]
      exact read_text T tb g w i h1 hi he h
    · rw [readN_elem d T i hi he]
      have hk := kidsF_of T i hi
      refine read_elem T tb g w i h1 hi he h _ rfl (ha _ (List.getElem_mem hi)) d _ rfl ?_ ?_ ?_
      · have := kids_short hw i hi
        rw [hk] at this
        omega
      · intro j hj
        have hm : T.nodes[i].kids[j] ∈ kidsF T i := by rw [hk]; exact List.getElem_mem hj
        obtain ⟨p1, p2, _⟩ := hw.kid i hi _ hm
        obtain ⟨x, hx⟩ := Int.eq_ofNat_of_zero_le (by omega : 0 ≤ T.nodes[i].kids[j])
        refine ⟨x, hx, by omega, by omega, ?_⟩
        rw [← hx]
        exact hd _ hm
      · intro u x hx1 hx2 hx3 hT
        exact read_deep d T tb g u x hw hl ha hx1 hx2 hx3 hT

theorem read_no (T : TreeD) (tb g : Nat) (w : World) (n : Int) (hn : isF T n = false) (h : TreeO w tb g T) :
    Calls Try.prog 14 #[.pointer (some ⟨tb, 0, none⟩), .int .i64 n] w fun e w' => ∃ cs, e = .returned (.tuple #[.agg cs.toArray, .int .i64 47]) ∧ NodeC (· < w.heap.size) w' cs emptyNT ∧ Below w.heap.size w w' := by
  have hb := (Below.refl w.heap.size w).alloc (Nat.le_refl _) (.cells #[.int .i64 0, .int .i64 0, .string ⟨#[]⟩, .slice none 0 0, .string ⟨#[]⟩, .slice none 0 0] 36)
  have HI := Lib.hid (is_any T tb g _ n (h.below hb))
  rw [hn] at HI
  clear h
  go_enter Try.func14, Try.ntmps14
  go_wp2_with (go_at_call 56; go_must (refine HI.out.mono ?_; rintro e w1 ⟨rfl, rfl⟩))
  refine bodyPost_ret (ret_node rfl _ _ w.heap.size _ _ _ _ (.int .i64 47) (by rfl) (by rfl) (heap_alloc_new w _) Try.underlying36 rfl size_out) rfl ?_
  refine ⟨nodeV 0 0 ⟨#[]⟩ none 0 0 ⟨#[]⟩ none 0 0, rfl, ?_, hb⟩
  exact .mk (attrs := []) (kids := []) [] (Nat.le_refl _) (Nat.zero_le _) (fun _ => rfl) (fun j u hj => by simp [pairsV] at hj) (Nat.le_refl _) (Nat.zero_le _) (fun _ => rfl) (fun j u hj => by simp at hj) rfl (fun i h => by simp at h)

/-- what Read tells, and the number beside it -/
def readQ (d : Nat) (T : TreeD) (n : Int) : NT := if isF T n then readN d T n else emptyNT
theorem Read_any (T : TreeD) (tb g : Nat) (w : World) (n : Int) (hw : WF T) (hl : T.nodes.length ≤ 1000000) (ha : ∀ d ∈ T.nodes, d.attrs.length ≤ 1048576) (d : Nat) (hd : ∀ i : Nat, 1 ≤ i → i < T.nodes.length → Deep d T i) (h : TreeO w tb g T) :
    Calls Try.prog 14 #[.pointer (some ⟨tb, 0, none⟩), .int .i64 n] w fun e w' => ∃ cs, e = .returned (.tuple #[.agg cs.toArray, .int .i64 (if isF T n then 0 else 47)]) ∧ NodeC (· < w.heap.size) w' cs (readQ d T n) ∧ Below w.heap.size w w' := by
  cases hi : isF T n
  · have e : readQ d T n = emptyNT := by rw [readQ, hi]; rfl
    rw [e]
    exact read_no T tb g w n hi h
  · have e : readQ d T n = readN d T n := by rw [readQ, hi]; rfl
    rw [e]
    have hb := isF_lt hi
    obtain ⟨i, rfl⟩ := Int.eq_ofNat_of_zero_le (by omega : 0 ≤ n)
    exact read_deep d T tb g w i hw hl ha (by omega) (by omega) (hd i (by omega) (by omega)) h
end Go.Proofs.Ytidbihdnginmcaa
