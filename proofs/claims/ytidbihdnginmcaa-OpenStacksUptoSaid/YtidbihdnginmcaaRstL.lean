/-
  Calls on one side that read the law's own blocks; law 14's act: its first steps. No conditions beyond those that each lemma types.
-/
import Derived.Test.YtidbihdnginmcaaRstK
import Derived.Test.YtidbihdnginmcaaRun
namespace Go.Proofs.Ytidbihdnginmcaa
open Go.RowKit Mem

section
variable {w0 w w' : World} {A A' B B' : (Nat → Prop) → World → Prop} {L L' : Nat → Prop}
theorem DI.callA2 {P : Program} {f : FuncId} {args : Array Value} {Q : Ending → World → Prop} (hB : Side w0 B) (h : DI w0 A B L w) (hc : ∀ ex, (∀ k, L k → ex k) → A ex w → Calls P f args w fun e w' => Q e w' ∧ A' ex w' ∧ Keeps (Own w0 ex) w w') :
    Calls P f args w fun e w' => Q e w' ∧ DI w0 A' B L w' ∧ Keeps (Own w0 L) w w' := by
  obtain ⟨PB, h1, h2, h3, h4⟩ := h
  refine (hc _ (fun k hk => .inr hk) h3).mono ?_
  rintro e w' ⟨hq, ha, hk⟩
  have hsz := hk.size
  refine ⟨hq, ⟨PB, fun k hk => ⟨(h1 k hk).1, Nat.lt_of_lt_of_le (h1 k hk).2.1 hsz, (h1 k hk).2.2⟩, fun k hk => ⟨(h2 k hk).1, Nat.lt_of_lt_of_le (h2 k hk).2 hsz⟩, ha, ?_⟩, hk.mono fun k _ hx => ⟨hx.1, fun hL => hx.2 (.inr hL)⟩⟩
  refine hB.foreign h4 hk (fun k hlt hx => ⟨⟨hx.1, hlt, fun hP => hx.2 (.inl hP)⟩, hx.1⟩) fun k hx => ⟨?_, hx.2.1⟩
  rcases Nat.lt_or_ge k w.heap.size with h | h
  · exact .inl ⟨hx.1, h, hx.2.2⟩
  · exact .inr h
theorem DI.callB2 {P : Program} {f : FuncId} {args : Array Value} {Q : Ending → World → Prop} (hA : Side w0 A) (hB : Side w0 B) (hB' : Side w0 B') (h : DI w0 A B L w) (hc : ∀ ex, (∀ k, L k → ex k) → B ex w → Calls P f args w fun e w' => Q e w' ∧ B' ex w' ∧ Keeps (Own w0 ex) w w') :
    Calls P f args w fun e w' => Q e w' ∧ DI w0 A B' L w' ∧ Keeps (Own w0 L) w w' := by
  obtain ⟨PB, h1, h2, h3, h4⟩ := h
  have hs0 := (hB.below h4).size
  refine (hc _ (fun k hk => ⟨(h2 k hk).1, (h2 k hk).2, fun hP => (h1 k hP).1 hk⟩) h4).mono ?_
  rintro e w' ⟨hq, hb, hk⟩
  have hsz := hk.size
  refine ⟨hq, ⟨fun k => PB k ∨ (w.heap.size ≤ k ∧ k < w'.heap.size), ?_, fun k hk => ⟨(h2 k hk).1, Nat.lt_of_lt_of_le (h2 k hk).2 hsz⟩, ?_, ?_⟩, hk.mono fun k hlt hx => ⟨hx.1, fun hL => hx.2 ⟨hx.1, hlt, fun hP => (h1 k hP).1 hL⟩⟩⟩
  · rintro k (hx | hx)
    · exact ⟨(h1 k hx).1, Nat.lt_of_lt_of_le (h1 k hx).2.1 hsz, (h1 k hx).2.2⟩
    · exact ⟨fun hL => by have := (h2 k hL).2; omega, hx.2, by omega⟩
  · refine hA.foreign h3 hk (fun k hlt hx => ⟨?_, hx.1⟩) ?_
    · refine .inl ?_
      exact Classical.byContradiction fun hn => hx.2 ⟨hx.1, hlt, hn⟩
    · rintro k ((hx | hx) | hx)
      · exact ⟨.inl (.inl hx), Nat.lt_of_lt_of_le (h1 k hx).2.1 hsz⟩
      · exact ⟨.inr hx.1, hx.2⟩
      · exact ⟨.inl (.inr hx), Nat.lt_of_lt_of_le (h2 k hx).2 hsz⟩
  · refine hB'.foreign hb (Keeps.refl (fun _ => False) w') (fun _ _ h => h.elim) fun k hx => ⟨.inl ⟨hx.1, ?_, fun hP => hx.2.2 (.inl hP)⟩, hx.2.1⟩
    rcases Nat.lt_or_ge k w.heap.size with h | h
    · exact h
    · exact absurd (.inr ⟨h, hx.2.1⟩) hx.2.2
end

section
variable {w0 w w' : World} {B C tb rb sb qb : Nat} {T U : TreeD} {l m l' m' : List Int} {L L' : Nat → Prop}
/-- a call on the program's side that reads the law's own blocks -/
theorem DS.callP2 {P : Program} {f : FuncId} {args : Array Value} {Q : Ending → World → Prop} (h : DS w0 B C tb rb sb qb T U l m L w) (hc : ∀ ex, (∀ k, L k → ex k) → SI w0 B tb sb ex T l w → Calls P f args w fun e w' => Q e w' ∧ SI w0 B tb sb ex T l' w' ∧ Keeps (Own w0 ex) w w') :
    Calls P f args w fun e w' => Q e w' ∧ DS w0 B C tb rb sb qb T U l' m L w' ∧ Keeps (Own w0 L) w w' := DI.callA2 (A' := fun ex w => SI w0 B tb sb ex T l' w) (rsi_side ..) h hc
/-- a call on the document's side that reads the law's own blocks -/
theorem DS.callD2 {P : Program} {f : FuncId} {args : Array Value} {Q : Ending → World → Prop} (h : DS w0 B C tb rb sb qb T U l m L w) (hc : ∀ ex, (∀ k, L k → ex k) → RSI w0 C rb qb ex U m w → Calls P f args w fun e w' => Q e w' ∧ RSI w0 C rb qb ex U m' w' ∧ Keeps (Own w0 ex) w w') :
    Calls P f args w fun e w' => Q e w' ∧ DS w0 B C tb rb sb qb T U l m' L w' ∧ Keeps (Own w0 L) w w' := DI.callB2 (B' := fun ex w => RSI w0 C rb qb ex U m' w) (si_side ..) (rsi_side ..) (rsi_side ..) h hc
end
end Go.Proofs.Ytidbihdnginmcaa
