/-
  What a tree that is being made holds and what is asked of it: plain Lean, no Go. (Layer 14.)
-/
import Derived.Test.YtidbihdnginmcaaTreeMem
namespace Go.Proofs.Ytidbihdnginmcaa
open Mem

def TreeD.get (T : TreeD) (n : Int) : Option ND := if 0 ≤ n then T.nodes[n.toNat]? else none
def isF (T : TreeD) (n : Int) : Bool := decide (1 ≤ n) && decide (n < (T.nodes.length : Int))
def elemF (T : TreeD) (n : Int) : Bool := isF T n && ((T.nodes[n.toNat]?).map (·.elem)).getD false
def holdsF (T : TreeD) (n : Int) : Bool := (n == 0) || elemF T n
/-- where a number stands in a list; -1: nowhere -/
def idxF : List Int → Int → Int → Int
  | [], _, _ => -1
  | y :: r, x, k => if y = x then k else idxF r x (k + 1)
def kidsF (T : TreeD) (n : Int) : List Int := ((T.nodes[n.toNat]?).map (·.kids)).getD []
def parentF (T : TreeD) (n : Int) : Int := ((T.nodes[n.toNat]?).map (·.parent)).getD (-1)
def placeF (T : TreeD) (parent before : Int) : Int := if before = 0 then (kidsF T parent).length else idxF (kidsF T parent) before 0

theorem idxF_step (l : List Int) (x : Int) (k : Nat) (h : k < l.length) (hne : l[k] ≠ x) (z : Int) : idxF (l.drop k) x z = idxF (l.drop (k + 1)) x (z + 1) := by
  rw [List.drop_eq_getElem_cons h, idxF, if_neg hne]
theorem idxF_hit (l : List Int) (x : Int) (k : Nat) (h : k < l.length) (he : l[k] = x) (z : Int) : idxF (l.drop k) x z = z := by
  rw [List.drop_eq_getElem_cons h, idxF, if_pos he]
theorem kidsF_of (T : TreeD) (i : Nat) (h : i < T.nodes.length) : kidsF T i = T.nodes[i].kids := by simp [kidsF, h]
theorem parentF_of (T : TreeD) (i : Nat) (h : i < T.nodes.length) : parentF T i = T.nodes[i].parent := by simp [parentF, h]
theorem elemF_of (T : TreeD) (i : Nat) (h1 : 1 ≤ i) (h : i < T.nodes.length) : elemF T i = T.nodes[i].elem := by
  have h2 : isF T i = true := by simp [isF]; omega
  rw [elemF, h2]
  simp [h]

/-- is top the number n, or above it? -/
inductive Reach (T : TreeD) (top : Int) : Int → Prop
  | here : Reach T top top
  | up {n : Int} : 0 < n → Reach T top (parentF T n) → Reach T top n
theorem reach_low {T : TreeD} {top n : Int} (h : n ≤ 0) : Reach T top n ↔ n = top := by
  constructor
  · intro hr
    cases hr with
    | here => rfl
    | up h0 _ => omega
  · rintro rfl
    exact .here
theorem reach_up {T : TreeD} {top n : Int} (h : 0 < n) (hne : n ≠ top) : Reach T top n ↔ Reach T top (parentF T n) := by
  constructor
  · intro hr
    cases hr with
    | here => exact absurd rfl hne
    | up _ hr => exact hr
  · exact .up h
noncomputable def belowF (T : TreeD) (n top : Int) : Bool := @decide (Reach T top n) (Classical.propDecidable _)
theorem belowF_congr {T : TreeD} {n m top : Int} (h : Reach T top n ↔ Reach T top m) : belowF T n top = belowF T m top := by
  simp only [belowF]
  exact @decide_eq_decide _ _ (Classical.propDecidable _) (Classical.propDecidable _) |>.2 h
theorem belowF_true {T : TreeD} {n top : Int} (h : Reach T top n) : belowF T n top = true := by simp [belowF, h]
theorem belowF_low {T : TreeD} {n top : Int} (h : n ≤ 0) : belowF T n top = (n == top) := by
  rw [Bool.eq_iff_iff]
  simp [belowF, reach_low h]

def upM (r : Int → Nat) (m : Int) : Nat := if 0 < m then r m + 1 else 0
theorem upM_lt (r : Int → Nat) (m p : Int) (hm : 0 < m) (h : 1 ≤ p → r p < r m) : upM r p < upM r m := by
  unfold upM
  rw [if_pos hm]
  split
  · have := h (by omega); omega
  · omega

/-- a tree is one: parents and kids tell the same, nobody is above itself -/
structure WF (T : TreeD) : Prop where
  pos : 0 < T.nodes.length
  root : parentF T 0 = -1
  par : ∀ i : Nat, i < T.nodes.length → -1 ≤ parentF T i ∧ parentF T i < T.nodes.length
  kid : ∀ i : Nat, i < T.nodes.length → ∀ k ∈ kidsF T i, 1 ≤ k ∧ k < T.nodes.length ∧ parentF T k = i
  mem : ∀ i : Nat, i < T.nodes.length → 0 ≤ parentF T i → (i : Int) ∈ kidsF T (parentF T i)
  nodup : ∀ i : Nat, i < T.nodes.length → (kidsF T i).Nodup
  rank : ∃ r : Int → Nat, ∀ i : Nat, i < T.nodes.length → 1 ≤ parentF T i → r (parentF T i) < r i
  holds : ∀ i : Nat, i < T.nodes.length → kidsF T i ≠ [] → holdsF T i = true
end Go.Proofs.Ytidbihdnginmcaa
