/-
  The steps of a law on a tree, as plain data and as cells of the list that came in. (Layer 14.)
-/
import Derived.Test.YtidbihdnginmcaaOpenCount
namespace Go.Proofs.Ytidbihdnginmcaa
open Go.RowKit Mem

structure OpD where
  kind : Int
  a : Int
  b : Int
  c : Int
  s : ByteArray
  attrs : List Pair

def opV (o : OpD) (aa : Option Addr) (ac : Nat) : List Value := [.int .i64 o.kind, .int .i64 o.a, .int .i64 o.b, .int .i64 o.c, .string o.s, .slice aa o.attrs.length ac]
/-- a list of steps in memory -/
structure OpsAt (w : World) (a : Option Addr) (l : List OpD) : Prop where
  ops : ∀ k (h : k < l.length), ∃ b o aa ac, a = some ⟨b, o, none⟩ ∧ (aa = none → ac = 0) ∧ AtF Non w aa (pairsV l[k].attrs) ∧ ∀ f v, (opV l[k] aa ac)[f]? = some v → w.cell? ⟨b, o + k * 6 + f, none⟩ = some v
theorem OpsAt.below {w w' : World} {a : Option Addr} {l : List OpD} (h : OpsAt w a l) (hb : Below w.heap.size w w') : OpsAt w' a l where
  ops := fun k hk => by
    obtain ⟨b, o, aa, ac, h1, h2, h3, h4⟩ := h.ops k hk
    exact ⟨b, o, aa, ac, h1, h2, h3.kept (Keeps.ofBelow hb), fun f v hf => cell_later hb (h4 f v hf)⟩

/-- no more nodes than may be -/
def Lm (m : Int) (T : TreeD) : Prop := (T.nodes.length : Int) ≤ m + 1 ∧ T.most = m
theorem mkF_lm {m : Int} {T : TreeD} (d : ND) (h : Lm m T) : Lm m (mkF T d).1 := by
  unfold mkF
  split
  · rename_i hh
    obtain ⟨h1, h2⟩ := h
    refine ⟨?_, h2⟩
    simp only [addF, List.length_append, List.length_singleton]
    omega
  · exact h
theorem likeF_lm {m : Int} {T : TreeD} (n : Int) (h : Lm m T) : Lm m (likeF T n).1 := by
  unfold likeF
  split
  · exact mkF_lm _ h
  · exact h
theorem putE_lm {m : Int} {T : TreeD} (a b n : Int) (h : Lm m T) : Lm m (putE T a b n).1 := by
  unfold putE
  split
  · exact ⟨by rw [putF_len]; exact h.1, by rw [putF_most]; exact h.2⟩
  · exact h
theorem takeE_lm {m : Int} {T : TreeD} (n : Int) (h : Lm m T) : Lm m (takeE T n).1 := by
  unfold takeE
  split
  · exact ⟨by rw [takeF_len]; exact h.1, by rw [takeF_most]; exact h.2⟩
  · exact h
theorem moveE_lm {m : Int} {T : TreeD} (a b : Int) (h : Lm m T) : Lm m (moveE T a b).1 := by
  unfold moveE
  split
  · have : ∀ (l : List Int) (T : TreeD), Lm m T → Lm m (moveF T b l) := by
      intro l
      induction l with
      | nil => exact fun _ h => h
      | cons x r ih => exact fun T h => ih _ (putE_lm _ _ _ h)
    exact this _ _ h
  · exact h
theorem textE_lm {m : Int} {T : TreeD} (a b : Int) (s : ByteArray) (h : Lm m T) : Lm m (textE T a b s).1 := by
  unfold textE
  split
  · split
    · exact h
    · unfold textAt
      split
      · exact ⟨by rw [modN_len]; exact h.1, h.2⟩
      · split
        · rename_i hh
          obtain ⟨h1, h2⟩ := h
          refine ⟨?_, h2⟩
          rw [insertF_len]
          simp only [addF, List.length_append, List.length_singleton]
          omega
        · exact h
  · exact h
end Go.Proofs.Ytidbihdnginmcaa
