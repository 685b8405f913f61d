/-
  What the bound of an Upto statement gives: how long a slice or a string that came in is. Conditions: the statement's own.
-/
import Derived.Test.YtclflmjpdglgiaaGreatRows
import Derived.Test.YtclflmjpdglgiaaGreatLaw
namespace Go.Proofs.YtclflmjpdglgiaaGreat.Bulk
open Go Go.RowKit Go.ChangeShapes Go.WideShapes Go.ChangeAt Mem Law

section
variable {H : Type} {enc : TypeId × Value → H} {P : Program} {w : World} {base : Nat} {spare : Nat → Bool} {held : Bool}

/-- a slice's length is its datum's -/
theorem slice_len {t e : TypeId} {fuel : Nat} {a : Option Addr} {n c : Nat} {x : DataW H × List MemPlace} (ht : P.underlying t = some (.slice e)) (h : DataW.trod enc P w base spare held fuel t [.slice a n c] = some x) :
    (x.1 = .nil ∧ n = 0) ∨ ∃ el sp, x.1 = .slice el sp ∧ el.length = n := by
  rcases Deep.open_slice ht h with ⟨he, rfl⟩ | ⟨a', len, cap, m, k, D, Pl, he, _, _, _, _, rfl, _⟩
  · simp only [List.cons.injEq, Value.slice.injEq, and_true] at he
    exact .inl ⟨rfl, he.2.1⟩
  · simp only [List.cons.injEq, Value.slice.injEq, and_true] at he
    exact .inr ⟨_, _, rfl, by simp [he.2.1]⟩
end

theorem one_le {H : Type} (d : DataW H) : 1 ≤ Rows.uptoBulk d := by
  cases d with
  | lit l => cases l <;> simp [Rows.uptoBulk]
  | _ => simp [Rows.uptoBulk]
theorem all_len {H : Type} : ∀ l : List (DataW H), l.length ≤ Rows.uptoBulkAll l
  | [] => by simp [Rows.uptoBulkAll]
  | d :: r => by
    have h1 := one_le d
    have h2 := all_len r
    simp only [Rows.uptoBulkAll, List.length_cons]
    omega
theorem mem_le {H : Type} {d : DataW H} : ∀ {l : List (DataW H)}, d ∈ l → Rows.uptoBulk d ≤ Rows.uptoBulkAll l
  | [], h => by cases h
  | x :: r, h => by
    simp only [Rows.uptoBulkAll]
    rcases List.mem_cons.1 h with rfl | h
    · omega
    · have := mem_le h; omega
theorem small_le {H : Type} {ds : List (DataW H)} (hk : Rows.uptoSmall H ds = true) : Rows.uptoBulkAll ds ≤ 1048576 := of_decide_eq_true hk
/-- a slice that came in is short -/
theorem slice_short {H : Type} {enc : TypeId × Value → H} {P : Program} {w : World} {base : Nat} {spare : Nat → Bool} {held : Bool} {t e : TypeId} {a : Option Addr} {n c : Nat} {d : DataW H} {p : List MemPlace} {ds : List (DataW H)}
    (ht : P.underlying t = some (.slice e)) (h : DataW.Trod enc P w base spare held t (.slice a n c) d p) (hd : d ∈ ds) (hk : Rows.uptoSmall H ds = true) : n ≤ 1048576 := by
  obtain ⟨fuel, hf⟩ := h
  have hb := Nat.le_trans (mem_le hd) (small_le hk)
  rcases slice_len ht (by simpa [Value.cells] using hf) with ⟨_, rfl⟩ | ⟨el, sp, he, rfl⟩
  · omega
  · simp only at he
    subst he
    have := all_len el
    simp only [Rows.uptoBulk] at hb
    omega
/-- a string that came in is short -/
theorem string_short {H : Type} {x : ByteArray} {ds : List (DataW H)} (hd : DataW.lit (.string x.data.toList) ∈ ds) (hk : Rows.uptoSmall H ds = true) : x.size ≤ 1048576 := by
  have hb := Nat.le_trans (mem_le hd) (small_le hk)
  have : x.data.toList.length = x.size := rfl
  simp only [Rows.uptoBulk] at hb
  omega
end Go.Proofs.YtclflmjpdglgiaaGreat.Bulk
