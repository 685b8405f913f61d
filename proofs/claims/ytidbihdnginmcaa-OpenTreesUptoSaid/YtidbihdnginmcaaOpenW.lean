/-
  A node of a tree with all below it, as plain data: what Read tells. (Layer 14.)
-/
import Derived.Test.YtidbihdnginmcaaOpenV
import Derived.Test.YtidbihdnginmcaaNodes
namespace Go.Proofs.Ytidbihdnginmcaa
open Go.RowKit Mem

/-- what is below n goes no deeper than so many steps -/
def Deep : Nat → TreeD → Int → Prop
  | 0, _, _ => False
  | k + 1, T, n => ∀ x ∈ kidsF T n, Deep k T x
def emptyNT : NT := .mk 0 0 ⟨#[]⟩ [] ⟨#[]⟩ []
def readN : Nat → TreeD → Int → NT
  | 0, _, _ => emptyNT
  | k + 1, T, n => match T.nodes[n.toNat]? with
    | none => emptyNT
    | some d => if d.elem then .mk 1 d.space d.name d.attrs ⟨#[]⟩ ((kidsF T n).map (readN k T)) else .mk 2 0 ⟨#[]⟩ [] d.text []
theorem readN_elem (k : Nat) (T : TreeD) (i : Nat) (h : i < T.nodes.length) (he : T.nodes[i].elem = true) :
    readN (k + 1) T i = .mk 1 T.nodes[i].space T.nodes[i].name T.nodes[i].attrs ⟨#[]⟩ (T.nodes[i].kids.map (readN k T)) := by
  simp [readN, h, he, kidsF]
theorem readN_text (k : Nat) (T : TreeD) (i : Nat) (h : i < T.nodes.length) (he : T.nodes[i].elem = false) : readN (k + 1) T i = .mk 2 0 ⟨#[]⟩ [] T.nodes[i].text [] := by
  simp [readN, h, he]
theorem deep_more : ∀ (k : Nat) (T : TreeD) (n : Int), Deep k T n → Deep (k + 1) T n
  | 0, _, _, h => h.elim
  | k + 1, T, _, h => fun x hx => deep_more k T x (h x hx)
theorem deep_le {k j : Nat} {T : TreeD} {n : Int} (h : Deep k T n) (hkj : k ≤ j) : Deep j T n := by
  obtain ⟨m, rfl⟩ := Nat.exists_eq_add_of_le hkj
  clear hkj
  induction m with
  | zero => exact h
  | succ m ih => exact deep_more _ _ _ ih
theorem bounded (r : Nat → Nat) : ∀ N : Nat, ∃ M, ∀ i, i < N → r i ≤ M
  | 0 => ⟨0, fun i h => by omega⟩
  | N + 1 => by
    obtain ⟨M, hM⟩ := bounded r N
    refine ⟨max M (r N), fun i hi => ?_⟩
    by_cases he : i = N
    · subst he; omega
    · have := hM i (by omega); omega
/-- some depth is enough for every node -/
theorem deep_all {T : TreeD} (hw : WF T) : ∃ k, ∀ i : Nat, 1 ≤ i → i < T.nodes.length → Deep k T i := by
  obtain ⟨r, hr⟩ := hw.rank
  obtain ⟨M, hM⟩ := bounded (fun i => r i) T.nodes.length
  have key : ∀ (k : Nat) (i : Nat), 1 ≤ i → i < T.nodes.length → M < r i + k → Deep k T i := by
    intro k
    induction k with
    | zero => intro i _ hi h; have := hM i hi; omega
    | succ k ih =>
      intro i h1 hi h x hx
      obtain ⟨hx1, hx2, hx3⟩ := hw.kid i hi x hx
      obtain ⟨j, rfl⟩ := Int.eq_ofNat_of_zero_le (by omega : 0 ≤ x)
      have hlt := hr j (by omega) (by rw [hx3]; omega)
      rw [hx3] at hlt
      exact ih j (by omega) (by omega) (by omega)
  exact ⟨M + 1, fun i h1 hi => key _ i h1 hi (by omega)⟩
end Go.Proofs.Ytidbihdnginmcaa
