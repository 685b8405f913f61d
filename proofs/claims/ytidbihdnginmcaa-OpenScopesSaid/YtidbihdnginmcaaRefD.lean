/-
  Plain lemmas on the document's tree in memory: a node is added behind the others; and: no change of a tree changes what it avoids. No conditions beyond those that each lemma types.
-/
import Derived.Test.YtidbihdnginmcaaRefC
import Derived.Test.YtidbihdnginmcaaOpenV
namespace Go.Proofs.Ytidbihdnginmcaa
open Go.RowKit Mem

theorem ref_push {tT tN tK : TypeId} {w w' : World} {rb gn gk gn' gk' capn capk capn' capk' : Nat} {T : TreeD} {Ns : List (List Value)} {Ks : List Value} {cs : List Value} {d : ND} (h : RefAt tT tN tK w rb gn gk T capn capk Ns Ks) (hk : Keeps (Three rb gn gk) w w')
    (hg1 : gn' = gn ∨ w.heap.size ≤ gn') (hg2 : gk' = gk ∨ w.heap.size ≤ gk') (hne : gn' ≠ gk')
    (ho1 : w'.ownsRow 0 tN 6 (.slice (some ⟨gn', 0, none⟩) (T.nodes.length + 1) capn') (T.nodes.length + 1) (Ns.flatten ++ cs)) (ho2 : w'.ownsRow 0 tK 1 (.slice (some ⟨gk', 0, none⟩) (T.nodes.length + 1) capk') (T.nodes.length + 1) (Ks ++ [.slice none 0 0]))
    (hh : w'.heap[rb]? = some (.cells #[.slice (some ⟨gn', 0, none⟩) (T.nodes.length + 1) capn', .slice (some ⟨gk', 0, none⟩) (T.nodes.length + 1) capk', .int .i64 T.most] tT (0, 0)))
    (hd : RNode (DatR T.far rb gn' gk') w' cs d) (hdk : d.kids = []) : RefAt tT tN tK w' rb gn' gk' (addF T d) capn' capk' (Ns ++ [cs]) (Ks ++ [.slice none 0 0]) := by
  obtain ⟨l1, l2, l3⟩ := h.lt
  have hN : (addF T d).nodes.length = T.nodes.length + 1 := by simp [addF]
  have hkm : Keeps (fun k => DatR T.far rb gn gk k ∨ DatR T.far rb gn' gk' k) w w' := hk.mono fun k _ h => .inl (.inl h)
  have hoth : ∀ b, b < w.heap.size → (DatR T.far rb gn gk b ∨ DatR T.far rb gn' gk' b) → DatR T.far rb gn gk b := fun b hb hh => by
    rcases hh with hh | (hh | hh | hh) | hh
    · exact hh
    · exact .inl (.inl hh)
    · rcases hg1 with rfl | hg
      · exact .inl (.inr (.inl hh))
      · omega
    · rcases hg2 with rfl | hg
      · exact .inl (.inr (.inr hh))
      · omega
    · exact .inr hh
  have n1 := h.n1
  have n2 := h.n2
  refine ⟨?_, ?_, hne, ?_, ?_, ?_, ?_, ?_, ?_, ?_⟩
  · rcases hg1 with rfl | hg
    · exact n1
    · omega
  · rcases hg2 with rfl | hg
    · exact n2
    · omega
  · rw [hN]; exact hh
  · rw [hN, List.flatten_append]; simpa using ho1
  · rw [hN]; exact ho2
  · rw [hN]; simp [h.lenN]
  · intro i hi hi'
    by_cases hlt : i < Ns.length
    · have hT : i < T.nodes.length := by rw [← h.lenN]; exact hlt
      have e1 : (Ns ++ [cs])[i]'hi = Ns[i] := List.getElem_append_left hlt
      have e2 : (addF T d).nodes[i]'hi' = T.nodes[i]'hT := List.getElem_append_left hT
      rw [e1, e2]
      exact (((h.nodes i hlt hT).other hoth).kept hkm).other fun b _ hh => .inr hh
    · have he : i = Ns.length := by simp at hi; omega
      have hiT : i = T.nodes.length := he.trans h.lenN
      have e1 : (Ns ++ [cs])[i]'hi = cs := by simp [he]
      have e2 : (addF T d).nodes[i]'hi' = d := by simp [addF, hiT]
      rw [e1, e2]
      exact hd
  · intro i hi hi'
    have hlK := h.lenK
    by_cases hlt : i < Ks.length
    · have hT : i < T.nodes.length := by rw [← hlK]; exact hlt
      have e1 : (Ks ++ [Value.slice none 0 0])[i]'hi = Ks[i] := List.getElem_append_left hlt
      have e2 : (addF T d).nodes[i]'hi' = T.nodes[i]'hT := List.getElem_append_left hT
      rw [e1, e2]
      exact (((h.kids i hlt hT).other hoth).kept hkm).other fun b _ hh => .inr hh
    · have he : i = Ks.length := by simp at hi; omega
      have hiT : i = T.nodes.length := he.trans hlK
      have e1 : (Ks ++ [Value.slice none 0 0])[i]'hi = .slice none 0 0 := by simp [he]
      have e2 : (addF T d).nodes[i]'hi' = d := by simp [addF, hiT]
      rw [e1, e2, hdk]
      exact ⟨none, 0, rfl, Nat.le_refl _, Nat.zero_le _, .inl ⟨rfl, rfl⟩, fun j u hj => by simp [intsV] at hj⟩
  · intro k hk'
    obtain ⟨k1, k2⟩ := h.avoid k hk'
    refine ⟨Nat.lt_of_lt_of_le k1 hk.size, ?_⟩
    rintro (e | e | e)
    · exact k2 (.inl e)
    · rcases hg1 with rfl | hg
      · exact k2 (.inr (.inl e))
      · omega
    · rcases hg2 with rfl | hg
      · exact k2 (.inr (.inr e))
      · omega

theorem mkF_far (T : TreeD) (d : ND) : (mkF T d).1.far = T.far := by unfold mkF; split <;> rfl
theorem likeF_far (T : TreeD) (n : Int) : (likeF T n).1.far = T.far := by
  unfold likeF
  split
  · exact mkF_far _ _
  · rfl
theorem takeF_far (T : TreeD) (n : Int) : (takeF T n).far = T.far := by
  show (kidsOff T n).far = T.far
  unfold kidsOff
  split <;> rfl
theorem putE_far (T : TreeD) (a b n : Int) : (putE T a b n).1.far = T.far := by
  unfold putE
  split
  · exact takeF_far T n
  · rfl
theorem takeE_far (T : TreeD) (n : Int) : (takeE T n).1.far = T.far := by
  unfold takeE
  split
  · exact takeF_far T n
  · rfl
theorem textE_far (T : TreeD) (a b : Int) (s : ByteArray) : (textE T a b s).1.far = T.far := by
  unfold textE
  split
  · split
    · rfl
    · unfold textAt
      split
      · rfl
      · split <;> rfl
  · rfl
theorem moveF_far (b : Int) : ∀ (l : List Int) (T : TreeD), (moveF T b l).far = T.far
  | [], _ => rfl
  | x :: r, T => (moveF_far b r (putE T b 0 x).1).trans (putE_far T b 0 x)
theorem moveE_far (T : TreeD) (a b : Int) : (moveE T a b).1.far = T.far := by
  unfold moveE
  split
  · exact moveF_far b _ T
  · rfl
end Go.Proofs.Ytidbihdnginmcaa
