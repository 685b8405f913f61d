/-
  A tree up to what it avoids: what is done to it does not hang on that. Plain Lean, no Go.
-/
import Derived.Test.YtidbihdnginmcaaOpenN
import Derived.Test.YtidbihdnginmcaaOpenV
import Derived.Test.YtidbihdnginmcaaTreeFar
namespace Go.Proofs.Ytidbihdnginmcaa
open Go.RowKit Mem

theorem drewN_below (w : World) (n : Nat) : Below w.heap.size w (w.drewN n) := ⟨rfl, rfl, rfl, Nat.le_refl _, fun _ _ => rfl⟩
def farW (F : Nat → Prop) (T : TreeD) : TreeD := ⟨T.nodes, T.most, F⟩
theorem mkF_farW (F : Nat → Prop) (T : TreeD) (d : ND) : mkF (farW F T) d = (farW F (mkF T d).1, (mkF T d).2) := by
  unfold mkF
  by_cases h : (T.nodes.length : Int) - 1 < T.most
  · rw [if_pos h, if_pos (show ((farW F T).nodes.length : Int) - 1 < (farW F T).most from h)]
    rfl
  · rw [if_neg h, if_neg (show ¬ ((farW F T).nodes.length : Int) - 1 < (farW F T).most from h)]
theorem likeF_farW (F : Nat → Prop) (T : TreeD) (n : Int) : likeF (farW F T) n = (farW F (likeF T n).1, (likeF T n).2) := by
  unfold likeF
  have he : elemF (farW F T) n = elemF T n := rfl
  rw [he]
  cases elemF T n
  · rfl
  · exact mkF_farW F T _
theorem belowF_farW (F : Nat → Prop) (T : TreeD) (n top : Int) : belowF (farW F T) n top = belowF T n top := by
  rw [Bool.eq_iff_iff]
  simp only [belowF, decide_eq_true_eq, reachV]
  rfl
theorem kidsOff_farW (F : Nat → Prop) (T : TreeD) (n : Int) : kidsOff (farW F T) n = farW F (kidsOff T n) := by
  unfold kidsOff
  have hp : parentF (farW F T) n = parentF T n := rfl
  rw [hp]
  split <;> rfl
theorem takeF_farW (F : Nat → Prop) (T : TreeD) (n : Int) : takeF (farW F T) n = farW F (takeF T n) := by rw [takeF, kidsOff_farW]; rfl
theorem takeE_farW (F : Nat → Prop) (T : TreeD) (n : Int) : takeE (farW F T) n = (farW F (takeE T n).1, (takeE T n).2) := by
  unfold takeE
  have he : isF (farW F T) n = isF T n := rfl
  rw [he, takeF_farW]
  split <;> rfl
theorem putE_farW (F : Nat → Prop) (T : TreeD) (a b n : Int) : putE (farW F T) a b n = (farW F (putE T a b n).1, (putE T a b n).2) := by
  unfold putE
  have he : putOk (farW F T) a b n = putOk T a b n := by
    unfold putOk
    rw [belowF_farW]
    rfl
  rw [he]
  split
  · rw [putF, takeF_farW]; rfl
  · rfl
theorem textE_farW (F : Nat → Prop) (T : TreeD) (a b : Int) (s : ByteArray) : textE (farW F T) a b s = (farW F (textE T a b s).1, (textE T a b s).2) := by
  unfold textE
  have h1 : holdsF (farW F T) a = holdsF T a := rfl
  have h2 : placeF (farW F T) a b = placeF T a b := rfl
  rw [h1, h2]
  split
  · split
    · rfl
    · unfold textAt
      rw [h2]
      have h3 : ∀ i, elemF (farW F T) (prevF (farW F T) a i) = elemF T (prevF T a i) := fun _ => rfl
      have h4 : (farW F T).nodes.length = T.nodes.length := rfl
      have h5 : (farW F T).most = T.most := rfl
      simp only [h3, h4, h5]
      split
      · rfl
      · split <;> rfl
  · rfl
theorem moveF_farW (F : Nat → Prop) (b : Int) : ∀ (l : List Int) (T : TreeD), moveF (farW F T) b l = farW F (moveF T b l)
  | [], _ => rfl
  | x :: r, T => by
    show moveF (putE (farW F T) b 0 x).1 b r = farW F (moveF (putE T b 0 x).1 b r)
    rw [putE_farW]
    exact moveF_farW F b r _
theorem moveE_farW (F : Nat → Prop) (T : TreeD) (a b : Int) : moveE (farW F T) a b = (farW F (moveE T a b).1, (moveE T a b).2) := by
  unfold moveE
  have h1 : ∀ x, holdsF (farW F T) x = holdsF T x := fun _ => rfl
  have h2 : kidsF (farW F T) a = kidsF T a := rfl
  rw [h1, h1, h2, belowF_farW, moveF_farW]
  split <;> rfl

/-- the blocks of a law that are none of ex -/
def Own (w0 : World) (ex : Nat → Prop) : Nat → Prop := fun k => w0.heap.size ≤ k ∧ ¬ ex k
end Go.Proofs.Ytidbihdnginmcaa
