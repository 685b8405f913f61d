/-
  The program's Remove, Swap, Insert beside the tree; and both stacks as the two sides of a law. No conditions beyond those that each lemma types.
-/
import Derived.Test.YtidbihdnginmcaaRstFI
import Derived.Test.YtidbihdnginmcaaSide
namespace Go.Proofs.Ytidbihdnginmcaa
open Go.RowKit Mem

section
variable {w0 w w' : World} {B tb rb sb : Nat} {ex : Nat → Prop} {T : TreeD} {l : List Int}
theorem Remove_si (h : SI w0 B tb sb ex T l w) (n : Int) :
    Calls Try.prog 69 #[.pointer (some ⟨sb, 0, none⟩), .int .i64 n] w fun e w' => e = .returned (.tuple #[]) ∧ SI w0 B tb sb ex T (rmF l n) w' ∧ Keeps (Own w0 ex) w w' := by
  obtain ⟨g, gs, far, h1, h2, h3, h4, h5⟩ := h
  refine (stk_remove w sb tb gs l h2 n (by omega)).mono ?_
  rintro e w' ⟨he, gs', hs, hg, hk⟩
  exact ⟨he, SI.stk_step h1 h3 h4 (Nat.le_trans (dropF_len _ _) h5) hk hs hg⟩
theorem Swap_si (h : SI w0 B tb sb ex T l w) (o n : Int) :
    Calls Try.prog 71 #[.pointer (some ⟨sb, 0, none⟩), .int .i64 o, .int .i64 n] w fun e w' => e = .returned (.tuple #[]) ∧ SI w0 B tb sb ex T (swapF l o n) w' ∧ Keeps (Own w0 ex) w w' := by
  obtain ⟨g, gs, far, h1, h2, h3, h4, h5⟩ := h
  refine (stk_swap w sb tb gs l h2 o n (by omega)).mono ?_
  rintro e w' ⟨he, hs, hk⟩
  exact ⟨he, SI.stk_step h1 h3 h4 (by unfold swapF; split <;> simp [h5]) hk hs fun k hk => .inl hk⟩
theorem Insert_si (h : SI w0 B tb sb ex T l w) (b n : Int) (hlt : l.length < 1000000) :
    Calls Try.prog 73 #[.pointer (some ⟨sb, 0, none⟩), .int .i64 b, .int .i64 n] w fun e w' => e = .returned (.tuple #[]) ∧ SI w0 B tb sb ex T (insF l b n) w' ∧ Keeps (Own w0 ex) w w' := by
  obtain ⟨g, gs, far, h1, h2, h3, h4, h5⟩ := h
  refine (stk_insert w sb tb gs l h2 b n (by omega)).mono ?_
  rintro e w' ⟨he, gs', hs, hg, hk⟩
  exact ⟨he, SI.stk_step h1 h3 h4 (by rw [← insK_end]; have := insK_len l (rfind l b) n l.length; omega) hk hs hg⟩
theorem SI.exlt (h : SI w0 B tb sb ex T l w) : ∀ k, ex k → k < w.heap.size := by
  obtain ⟨g, gs, far, h1, _, _, h4, _⟩ := h
  exact fun k hk => (h1.tree.far_lt k (h4 k hk)).1
theorem SI.side {ex' F : Nat → Prop} (h : SI w0 B tb sb ex T l w) (hk : Keeps F w w') (hF : ∀ k, k < w.heap.size → F k → ex k ∧ w0.heap.size ≤ k) (he : ∀ k, ex' k → (ex k ∨ w.heap.size ≤ k) ∧ k < w'.heap.size) : SI w0 B tb sb ex' T l w' :=
  h.foreign (F := fun k => F k ∧ k < w.heap.size) (hk.mono fun _ hk hx => ⟨hx, hk⟩) (fun k hx => hF k hx.2 hx.1) he
end
theorem si_side (w0 : World) (B tb sb : Nat) (T : TreeD) (l : List Int) : Side w0 fun ex w => SI w0 B tb sb ex T l w := ⟨fun h => h.side, fun h => h.exlt, fun h => h.below⟩
theorem rsi_side (w0 : World) (B rb sb : Nat) (T : TreeD) (l : List Int) : Side w0 fun ex w => RSI w0 B rb sb ex T l w := ⟨fun h => h.foreign, fun h => h.exlt, fun h => h.below⟩

/-- both trees with their stacks in one world -/
def DS (w0 : World) (B C tb rb sb qb : Nat) (T U : TreeD) (l m : List Int) (L : Nat → Prop) (w : World) : Prop := DI w0 (fun ex w => SI w0 B tb sb ex T l w) (fun ex w => RSI w0 C rb qb ex U m w) L w

section
variable {w0 w w' : World} {B C tb rb sb qb : Nat} {T U : TreeD} {l m l' m' : List Int} {L L' : Nat → Prop}
theorem DS.lay (h : DS w0 B C tb rb sb qb T U l m L w) (hb : Below w.heap.size w w') : DS w0 B C tb rb sb qb T U l m (fun k => L k ∨ (w.heap.size ≤ k ∧ k < w'.heap.size)) w' := DI.lay (si_side ..) (rsi_side ..) h hb
theorem DS.write (h : DS w0 B C tb rb sb qb T U l m L w) (hk : Keeps L w w') : DS w0 B C tb rb sb qb T U l m L w' := DI.write (si_side ..) (rsi_side ..) h hk
theorem DS.less (h : DS w0 B C tb rb sb qb T U l m L w) (hL : ∀ k, L' k → L k) : DS w0 B C tb rb sb qb T U l m L' w := DI.less (si_side ..) h hL
theorem DS.world (h : DS w0 B C tb rb sb qb T U l m L w) (hb : Below w.heap.size w w') : DS w0 B C tb rb sb qb T U l m L w' := DI.world (si_side ..) (rsi_side ..) h hb
theorem DS.below (h : DS w0 B C tb rb sb qb T U l m L w) : Below w0.heap.size w0 w := DI.below (rsi_side ..) h
/-- a call on the program's side -/
theorem DS.callP {P : Program} {f : FuncId} {args : Array Value} {Q : Ending → World → Prop} (h : DS w0 B C tb rb sb qb T U l m L w) (hc : ∀ ex, SI w0 B tb sb ex T l w → Calls P f args w fun e w' => Q e w' ∧ SI w0 B tb sb ex T l' w' ∧ Keeps (Own w0 ex) w w') :
    Calls P f args w fun e w' => Q e w' ∧ DS w0 B C tb rb sb qb T U l' m L w' ∧ Keeps (Own w0 L) w w' := DI.callA (A' := fun ex w => SI w0 B tb sb ex T l' w) (rsi_side ..) h hc
/-- a call on the document's side -/
theorem DS.callD {P : Program} {f : FuncId} {args : Array Value} {Q : Ending → World → Prop} (h : DS w0 B C tb rb sb qb T U l m L w) (hc : ∀ ex, RSI w0 C rb qb ex U m w → Calls P f args w fun e w' => Q e w' ∧ RSI w0 C rb qb ex U m' w' ∧ Keeps (Own w0 ex) w w') :
    Calls P f args w fun e w' => Q e w' ∧ DS w0 B C tb rb sb qb T U l m' L w' ∧ Keeps (Own w0 L) w w' := DI.callB (B' := fun ex w => RSI w0 C rb qb ex U m' w) (si_side ..) (rsi_side ..) (rsi_side ..) h hc
end
end Go.Proofs.Ytidbihdnginmcaa
