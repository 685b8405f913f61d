import Derived.Test.YtclflmjpdglgiaaGreatRfQQ
/-
  A tree beside other things; and two sides of a law (the program's and the document's) in one world: what a call on one leaves of the other. No conditions beyond those that each lemma types.
-/
namespace Go.Proofs.YtclflmjpdglgiaaGreat
open Go.RowKit Mem

/-- a tree (up to what it avoids); ex: blocks of other things -/
def TX (w0 : World) (B tb : Nat) (ex : Nat → Prop) (T : TreeD) (w : World) : Prop := ∃ g far, TI w0 B tb (farW far T) g w ∧ ∀ k, ex k → far k

section
variable {w0 w w' : World} {B B' tb : Nat} {ex : Nat → Prop} {T T' : TreeD}
theorem TX.wf (h : TX w0 B tb ex T w) : WF T := by
  obtain ⟨g, far, h, _⟩ := h
  have hw := h.wf
  exact ⟨hw.pos, hw.root, hw.par, hw.kid, hw.mem, hw.nodup, (by
    obtain ⟨r, hr⟩ := hw.rank
    exact ⟨r, hr⟩), hw.holds⟩
theorem TX.len (h : TX w0 B tb ex T w) : T.nodes.length ≤ 1000000 := by
  obtain ⟨g, far, h, _⟩ := h
  exact h.len
theorem TX.below (h : TX w0 B tb ex T w) : Below w0.heap.size w0 w := by
  obtain ⟨g, far, h, _⟩ := h
  exact h.below
theorem TX.exlt (h : TX w0 B tb ex T w) : ∀ k, ex k → k < w.heap.size := by
  obtain ⟨g, far, h, h2⟩ := h
  exact fun k hk => (h.tree.far_lt k (h2 k hk)).1
theorem TX.more (h : TX w0 B tb ex T w) (hB : B ≤ B') : TX w0 B' tb ex T w := by
  obtain ⟨g, far, h, h2⟩ := h
  exact ⟨g, far, h.more hB, h2⟩
theorem TX.foreign {ex' F : Nat → Prop} (h : TX w0 B tb ex T w) (hk : Keeps F w w') (hF : ∀ k, k < w.heap.size → F k → ex k ∧ w0.heap.size ≤ k) (he : ∀ k, ex' k → (ex k ∨ w.heap.size ≤ k) ∧ k < w'.heap.size) : TX w0 B tb ex' T w' := by
  obtain ⟨g, far, h1, h2⟩ := h
  have hk2 : Keeps (fun k => F k ∧ k < w.heap.size) w w' := hk.mono fun k hk hx => ⟨hx, hk⟩
  have hT : TreeO w' tb g (farW (fun k => far k ∨ ex' k) T) := h1.tree.foreign hk2 (fun k hx => h2 k (hF k hx.2 hx.1).1) fun k hx => by
    rcases hx with hx | hx
    · exact ⟨.inl hx, Nat.lt_of_lt_of_le (h1.tree.far_lt k hx).1 hk.size⟩
    · exact ⟨(he k hx).1.imp (h2 k) id, (he k hx).2⟩
  exact ⟨g, _, ⟨hT, wf_far (T := farW far T) (fun k => far k ∨ ex' k) h1.wf, h1.below.trans (hk2.below (fun k hk' hx => by have := (hF k hx.2 hx.1).2; omega) h1.below.size), h1.htb, h1.hg, h1.len, h1.most, h1.att, h1.txt⟩, fun k hk => .inr hk⟩
theorem TX.world (h : TX w0 B tb ex T w) (hb : Below w.heap.size w w') : TX w0 B tb ex T w' := by
  obtain ⟨g, far, h1, h2⟩ := h
  exact ⟨g, far, h1.world hb, h2⟩
theorem TX.step {far : Nat → Prop} {g g' : Nat} (h1 : TI w0 B tb (farW far T) g w) (h2 : ∀ k, ex k → far k) (hk : Keeps (Two tb g) w w') (ht : TI w0 B' tb (farW far T') g' w') : TX w0 B' tb ex T' w' ∧ Keeps (Own w0 ex) w w' := by
  have hf := h1.tree.far_lt
  refine ⟨⟨g', far, ht, h2⟩, hk.mono fun k _ hk' => ?_⟩
  rcases hk' with e | e
  · rw [e]
    exact ⟨h1.htb, fun hx => (hf tb (h2 tb hx)).2.1 rfl⟩
  · rw [e]
    exact ⟨h1.hg, fun hx => (hf g (h2 g hx)).2.2 rfl⟩
theorem Elem_tx (h : TX w0 B tb ex T w) (sp : Int) (nm : ByteArray) (at' : List Pair) (n : Nat) (a : Option Addr) (c : Nat) (hnl : n = at'.length) (hc : a = none → c = 0) (hlen : at'.length ≤ 1048576) (ha : At w a (pairsV at')) :
    Calls Tryz.prog 41 #[.pointer (some ⟨tb, 0, none⟩), .int .i64 sp, .string nm, .slice a n c] w fun e w' => e = .returned (.tuple #[.int .i64 (mkF T (elemN sp nm at')).2.1, .int .i64 (mkF T (elemN sp nm at')).2.2]) ∧ TX w0 B tb ex (mkF T (elemN sp nm at')).1 w' ∧ Keeps (Own w0 ex) w w' := by
  obtain ⟨g, far, h1, h2⟩ := h
  refine (Elem_ti h1 sp nm at' n a c hnl hc hlen ha).mono ?_
  rw [mkF_farW]
  rintro e w' ⟨he, hk, g', ht⟩
  obtain ⟨q1, q2⟩ := TX.step h1 h2 hk ht
  exact ⟨he, q1, q2⟩
theorem Like_tx (h : TX w0 B tb ex T w) (n : Int) :
    Calls Tryz.prog 90 #[.pointer (some ⟨tb, 0, none⟩), .int .i64 n] w fun e w' => e = .returned (.tuple #[.int .i64 (likeF T n).2.1, .int .i64 (likeF T n).2.2]) ∧ TX w0 B tb ex (likeF T n).1 w' ∧ Keeps (Own w0 ex) w w' := by
  obtain ⟨g, far, h1, h2⟩ := h
  refine (Like_ti h1 n).mono ?_
  rw [likeF_farW]
  rintro e w' ⟨he, hk, g', ht⟩
  obtain ⟨q1, q2⟩ := TX.step h1 h2 hk ht
  exact ⟨he, q1, q2⟩
theorem Put_tx (h : TX w0 B tb ex T w) (a b n : Int) :
    Calls Tryz.prog 43 #[.pointer (some ⟨tb, 0, none⟩), .int .i64 a, .int .i64 b, .int .i64 n] w fun e w' => e = .returned (.int .i64 (putE T a b n).2) ∧ TX w0 B tb ex (putE T a b n).1 w' ∧ Keeps (Own w0 ex) w w' := by
  obtain ⟨g, far, h1, h2⟩ := h
  refine (Put_ti h1 a b n).mono ?_
  rw [putE_farW]
  rintro e w' ⟨he, hk, ht⟩
  obtain ⟨q1, q2⟩ := TX.step h1 h2 hk ht
  exact ⟨he, q1, q2⟩
theorem Take_tx (h : TX w0 B tb ex T w) (n : Int) :
    Calls Tryz.prog 72 #[.pointer (some ⟨tb, 0, none⟩), .int .i64 n] w fun e w' => e = .returned (.int .i64 (takeE T n).2) ∧ TX w0 B tb ex (takeE T n).1 w' ∧ Keeps (Own w0 ex) w w' := by
  obtain ⟨g, far, h1, h2⟩ := h
  refine (Take_ti h1 n).mono ?_
  rw [takeE_farW]
  rintro e w' ⟨he, hk, ht⟩
  obtain ⟨q1, q2⟩ := TX.step h1 h2 hk ht
  exact ⟨he, q1, q2⟩
theorem Move_tx (h : TX w0 B tb ex T w) (a b : Int) :
    Calls Tryz.prog 115 #[.pointer (some ⟨tb, 0, none⟩), .int .i64 a, .int .i64 b] w fun e w' => e = .returned (.int .i64 (moveE T a b).2) ∧ TX w0 B tb ex (moveE T a b).1 w' ∧ Keeps (Own w0 ex) w w' := by
  obtain ⟨g, far, h1, h2⟩ := h
  refine (Move_ti h1 a b).mono ?_
  rw [moveE_farW]
  rintro e w' ⟨he, hk, ht⟩
  obtain ⟨q1, q2⟩ := TX.step h1 h2 hk ht
  exact ⟨he, q1, q2⟩
theorem Text_tx (h : TX w0 B tb ex T w) (a b : Int) (s : ByteArray) {B' : Nat} (hB : B + s.size ≤ B') (hB' : B' ≤ 9223372036854775807) :
    Calls Tryz.prog 48 #[.pointer (some ⟨tb, 0, none⟩), .int .i64 a, .int .i64 b, .string s] w fun e w' => e = .returned (.int .i64 (textE T a b s).2) ∧ TX w0 B' tb ex (textE T a b s).1 w' ∧ Keeps (Own w0 ex) w w' := by
  obtain ⟨g, far, h1, h2⟩ := h
  refine (Text_ti h1 a b s hB hB').mono ?_
  rw [textE_farW]
  rintro e w' ⟨he, hk, g', ht⟩
  obtain ⟨q1, q2⟩ := TX.step h1 h2 hk ht
  exact ⟨he, q1, q2⟩
theorem New_tx (most : Int) (hm : most ≤ 5000) (hex : ∀ k, ex k → k < w.heap.size) (hb : Below w0.heap.size w0 w) : Calls Tryz.prog 13 #[.int .i64 most] w fun e w' =>
    ∃ tb, e = .returned (.pointer (some ⟨tb, 0, none⟩)) ∧ TX w0 0 tb ex ⟨[rootN], most, noFar⟩ w' ∧ Below w.heap.size w w' := by
  refine (New_ti most hm w0 w hb).mono ?_
  rintro e w' ⟨tb, g, he, hT, h1, h2, hb1⟩
  have hT2 : TreeO w' tb g (farW ex ⟨[rootN], most, noFar⟩) := by
    obtain ⟨cap, Cs, hne, ht, ho, hl, hn, _⟩ := hT.tree
    refine ⟨cap, Cs, hne, ht, ho, hl, fun i q1 q2 => ?_, fun k hk => ?_⟩
    · have q4 : i = 0 := by simpa [farW] using q2
      subst q4
      obtain ⟨aa, ac, ka, kc, e1, e2, e3, e4, e5, e6, e7, _, _⟩ := hn 0 q1 (by simp)
      exact ⟨aa, ac, ka, kc, e1, e2, e3, e4, e5, e6, e7, fun j u hj => by simp [farW, rootN, pairsV] at hj, fun j u hj => by simp [farW, rootN, intsV] at hj⟩
    · have := hex k hk
      have := hb1.size
      exact ⟨by omega, by omega, by omega⟩
  exact ⟨tb, he, ⟨g, ex, ⟨hT2, wf_far ex (root_wf most), hT.below, hT.htb, hT.hg, hT.len, hT.most, hT.att, hT.txt⟩, fun k hk => hk⟩, hb1⟩
end

/-- one side of a law: what stands in its blocks stays when others are written; ex: blocks of other things -/
structure Side (w0 : World) (S : (Nat → Prop) → World → Prop) : Prop where
  foreign : ∀ {ex ex' F : Nat → Prop} {w w' : World}, S ex w → Keeps F w w' → (∀ k, k < w.heap.size → F k → ex k ∧ w0.heap.size ≤ k) → (∀ k, ex' k → (ex k ∨ w.heap.size ≤ k) ∧ k < w'.heap.size) → S ex' w'
  lt : ∀ {ex : Nat → Prop} {w : World}, S ex w → ∀ k, ex k → k < w.heap.size
  below : ∀ {ex : Nat → Prop} {w : World}, S ex w → Below w0.heap.size w0 w
def Oth (w0 : World) (P : Nat → Prop) (w : World) : Nat → Prop := fun k => w0.heap.size ≤ k ∧ k < w.heap.size ∧ ¬ P k
/-- both sides in one world; L: the law's own blocks -/
def DI (w0 : World) (A B : (Nat → Prop) → World → Prop) (L : Nat → Prop) (w : World) : Prop :=
  ∃ P : Nat → Prop, (∀ k, P k → ¬ L k ∧ k < w.heap.size ∧ w0.heap.size ≤ k) ∧ (∀ k, L k → w0.heap.size ≤ k ∧ k < w.heap.size) ∧ A (fun k => P k ∨ L k) w ∧ B (Oth w0 P w) w

section
variable {w0 w w' : World} {A A' B B' : (Nat → Prop) → World → Prop} {L L' : Nat → Prop}
theorem DI.callA {P : Program} {f : FuncId} {args : Array Value} {Q : Ending → World → Prop} (hB : Side w0 B) (h : DI w0 A B L w) (hc : ∀ ex, A ex w → Calls P f args w fun e w' => Q e w' ∧ A' ex w' ∧ Keeps (Own w0 ex) w w') :
    Calls P f args w fun e w' => Q e w' ∧ DI w0 A' B L w' ∧ Keeps (Own w0 L) w w' := by
  obtain ⟨PB, h1, h2, h3, h4⟩ := h
  refine (hc _ h3).mono ?_
  rintro e w' ⟨hq, ha, hk⟩
  have hsz := hk.size
  refine ⟨hq, ⟨PB, fun k hk => ⟨(h1 k hk).1, Nat.lt_of_lt_of_le (h1 k hk).2.1 hsz, (h1 k hk).2.2⟩, fun k hk => ⟨(h2 k hk).1, Nat.lt_of_lt_of_le (h2 k hk).2 hsz⟩, ha, ?_⟩, hk.mono fun k _ hx => ⟨hx.1, fun hL => hx.2 (.inr hL)⟩⟩
  refine hB.foreign h4 hk (fun k hlt hx => ⟨⟨hx.1, hlt, fun hP => hx.2 (.inl hP)⟩, hx.1⟩) fun k hx => ⟨?_, hx.2.1⟩
  rcases Nat.lt_or_ge k w.heap.size with h | h
  · exact .inl ⟨hx.1, h, hx.2.2⟩
  · exact .inr h
theorem DI.callB {P : Program} {f : FuncId} {args : Array Value} {Q : Ending → World → Prop} (hA : Side w0 A) (hB : Side w0 B) (hB' : Side w0 B') (h : DI w0 A B L w) (hc : ∀ ex, B ex w → Calls P f args w fun e w' => Q e w' ∧ B' ex w' ∧ Keeps (Own w0 ex) w w') :
    Calls P f args w fun e w' => Q e w' ∧ DI w0 A B' L w' ∧ Keeps (Own w0 L) w w' := by
  obtain ⟨PB, h1, h2, h3, h4⟩ := h
  have hs0 := (hB.below h4).size
  refine (hc _ h4).mono ?_
  rintro e w' ⟨hq, hb, hk⟩
  have hsz := hk.size
  refine ⟨hq, ⟨fun k => PB k ∨ (w.heap.size ≤ k ∧ k < w'.heap.size), ?_, fun k hk => ⟨(h2 k hk).1, Nat.lt_of_lt_of_le (h2 k hk).2 hsz⟩, ?_, ?_⟩, hk.mono fun k hlt hx => ⟨hx.1, fun hL => hx.2 ⟨hx.1, hlt, fun hP => (h1 k hP).1 hL⟩⟩⟩
  · rintro k (hx | hx)
    · exact ⟨(h1 k hx).1, Nat.lt_of_lt_of_le (h1 k hx).2.1 hsz, (h1 k hx).2.2⟩
    · exact ⟨fun hL => by have := (h2 k hL).2; omega, hx.2, by omega⟩
  · refine hA.foreign h3 hk (fun k hlt hx => ⟨?_, hx.1⟩) ?_
    · refine .inl ?_
      exact Classical.byContradiction fun hn => hx.2 ⟨hx.1, hlt, hn⟩
    · rintro k ((hx | hx) | hx)
      · exact ⟨.inl (.inl hx), Nat.lt_of_lt_of_le (h1 k hx).2.1 hsz⟩
      · exact ⟨.inr hx.1, hx.2⟩
      · exact ⟨.inl (.inr hx), Nat.lt_of_lt_of_le (h2 k hx).2 hsz⟩
  · refine hB'.foreign hb (Keeps.refl (fun _ => False) w') (fun _ _ h => h.elim) fun k hx => ⟨.inl ⟨hx.1, ?_, fun hP => hx.2.2 (.inl hP)⟩, hx.2.1⟩
    rcases Nat.lt_or_ge k w.heap.size with h | h
    · exact h
    · exact absurd (.inr ⟨h, hx.2.1⟩) hx.2.2
/-- new blocks become the law's own -/
theorem DI.lay (hA : Side w0 A) (hB : Side w0 B) (h : DI w0 A B L w) (hb : Below w.heap.size w w') : DI w0 A B (fun k => L k ∨ (w.heap.size ≤ k ∧ k < w'.heap.size)) w' := by
  obtain ⟨PB, h1, h2, h3, h4⟩ := h
  have hs0 := (hB.below h4).size
  have hsz := hb.size
  have hk := Keeps.ofBelow (F := fun _ => False) hb
  refine ⟨PB, fun k hx => ⟨?_, Nat.lt_of_lt_of_le (h1 k hx).2.1 hsz, (h1 k hx).2.2⟩, ?_, hA.foreign h3 hk (fun _ _ h => h.elim) ?_, hB.foreign h4 hk (fun _ _ h => h.elim) ?_⟩
  · rintro (h | h)
    · exact (h1 k hx).1 h
    · have := (h1 k hx).2.1
      omega
  · rintro k (hx | hx)
    · exact ⟨(h2 k hx).1, Nat.lt_of_lt_of_le (h2 k hx).2 hsz⟩
    · exact ⟨by omega, hx.2⟩
  · rintro k (hx | hx | hx)
    · exact ⟨.inl (.inl hx), Nat.lt_of_lt_of_le (h1 k hx).2.1 hsz⟩
    · exact ⟨.inl (.inr hx), Nat.lt_of_lt_of_le (h2 k hx).2 hsz⟩
    · exact ⟨.inr hx.1, hx.2⟩
  · intro k hx
    refine ⟨?_, hx.2.1⟩
    rcases Nat.lt_or_ge k w.heap.size with h | h
    · exact .inl ⟨hx.1, h, hx.2.2⟩
    · exact .inr h
/-- the law writes its own blocks -/
theorem DI.write (hA : Side w0 A) (hB : Side w0 B) (h : DI w0 A B L w) (hk : Keeps L w w') : DI w0 A B L w' := by
  obtain ⟨PB, h1, h2, h3, h4⟩ := h
  have hsz := hk.size
  refine ⟨PB, fun k hx => ⟨(h1 k hx).1, Nat.lt_of_lt_of_le (h1 k hx).2.1 hsz, (h1 k hx).2.2⟩, fun k hx => ⟨(h2 k hx).1, Nat.lt_of_lt_of_le (h2 k hx).2 hsz⟩, hA.foreign h3 hk (fun k _ hx => ⟨.inr hx, (h2 k hx).1⟩) ?_, hB.foreign h4 hk (fun k hlt hx => ⟨⟨(h2 k hx).1, hlt, fun hP => (h1 k hP).1 hx⟩, (h2 k hx).1⟩) ?_⟩
  · rintro k (hx | hx)
    · exact ⟨.inl (.inl hx), Nat.lt_of_lt_of_le (h1 k hx).2.1 hsz⟩
    · exact ⟨.inl (.inr hx), Nat.lt_of_lt_of_le (h2 k hx).2 hsz⟩
  · intro k hx
    refine ⟨?_, hx.2.1⟩
    rcases Nat.lt_or_ge k w.heap.size with h | h
    · exact .inl ⟨hx.1, h, hx.2.2⟩
    · exact .inr h
/-- the law lets go of blocks -/
theorem DI.less (hA : Side w0 A) (h : DI w0 A B L w) (hL : ∀ k, L' k → L k) : DI w0 A B L' w := by
  obtain ⟨PB, h1, h2, h3, h4⟩ := h
  refine ⟨PB, fun k hx => ⟨fun h => (h1 k hx).1 (hL k h), (h1 k hx).2⟩, fun k hx => h2 k (hL k hx), hA.foreign h3 (Keeps.refl (fun _ => False) w) (fun _ _ h => h.elim) ?_, h4⟩
  rintro k (hx | hx)
  · exact ⟨.inl (.inl hx), (h1 k hx).2.1⟩
  · exact ⟨.inl (.inr (hL k hx)), (h2 k (hL k hx)).2⟩
theorem DI.world (hA : Side w0 A) (hB : Side w0 B) (h : DI w0 A B L w) (hb : Below w.heap.size w w') : DI w0 A B L w' := (h.lay hA hB hb).less hA fun _ h => .inl h
theorem DI.left (h : DI w0 A B L w) : ∃ ex, A ex w ∧ ∀ k, L k → ex k := by
  obtain ⟨PB, h1, h2, h3, h4⟩ := h
  exact ⟨_, h3, fun k hk => .inr hk⟩
theorem DI.right (h : DI w0 A B L w) : ∃ ex, B ex w ∧ ∀ k, L k → ex k := by
  obtain ⟨PB, h1, h2, h3, h4⟩ := h
  exact ⟨_, h4, fun k hk => ⟨(h2 k hk).1, (h2 k hk).2, fun hP => (h1 k hP).1 hk⟩⟩
theorem DI.below (hB : Side w0 B) (h : DI w0 A B L w) : Below w0.heap.size w0 w := by
  obtain ⟨_, _, _, _, h4⟩ := h
  exact hB.below h4
theorem DI.monoA (h : DI w0 A B L w) (hA : ∀ ex w, A ex w → A' ex w) : DI w0 A' B L w := by
  obtain ⟨P, h1, h2, h3, h4⟩ := h
  exact ⟨P, h1, h2, hA _ _ h3, h4⟩
theorem DI.monoB (h : DI w0 A B L w) (hB : ∀ ex w, B ex w → B' ex w) : DI w0 A B' L w := by
  obtain ⟨P, h1, h2, h3, h4⟩ := h
  exact ⟨P, h1, h2, h3, hB _ _ h4⟩
end
theorem tx_side (w0 : World) (B tb : Nat) (T : TreeD) : Side w0 fun ex w => TX w0 B tb ex T w := ⟨fun h => h.foreign, fun h => h.exlt, fun h => h.below⟩
theorem ri_side (w0 : World) (B rb : Nat) (T : TreeD) : Side w0 fun ex w => RI w0 B rb ex T w := ⟨fun h => h.foreign, fun h => h.exlt, fun h => h.below⟩
end Go.Proofs.YtclflmjpdglgiaaGreat

/-
  Both trees of law 14 in one world: each call on one of them. No conditions beyond those that each lemma types.
-/
namespace Go.Proofs.YtclflmjpdglgiaaGreat
open Go.RowKit Mem

/-- the program's tree and the document's -/
def DT (w0 : World) (B C tb rb : Nat) (T U : TreeD) (L : Nat → Prop) (w : World) : Prop := DI w0 (fun ex w => TX w0 B tb ex T w) (fun ex w => RI w0 C rb ex U w) L w

section
variable {w0 w w' : World} {B C tb rb : Nat} {T U : TreeD} {L L' : Nat → Prop}
theorem DT.lay (h : DT w0 B C tb rb T U L w) (hb : Below w.heap.size w w') : DT w0 B C tb rb T U (fun k => L k ∨ (w.heap.size ≤ k ∧ k < w'.heap.size)) w' := DI.lay (tx_side ..) (ri_side ..) h hb
theorem DT.write (h : DT w0 B C tb rb T U L w) (hk : Keeps L w w') : DT w0 B C tb rb T U L w' := DI.write (tx_side ..) (ri_side ..) h hk
theorem DT.less (h : DT w0 B C tb rb T U L w) (hL : ∀ k, L' k → L k) : DT w0 B C tb rb T U L' w := DI.less (tx_side ..) h hL
theorem DT.world (h : DT w0 B C tb rb T U L w) (hb : Below w.heap.size w w') : DT w0 B C tb rb T U L w' := DI.world (tx_side ..) (ri_side ..) h hb
theorem DT.below (h : DT w0 B C tb rb T U L w) : Below w0.heap.size w0 w := DI.below (ri_side ..) h
theorem DT.more {B' C' : Nat} (h : DT w0 B C tb rb T U L w) (hB : B ≤ B') (hC : C ≤ C') : DT w0 B' C' tb rb T U L w := (DI.monoA h fun _ _ h => TX.more h hB).monoB fun _ _ h => RI.more h hC
theorem DT.wf (h : DT w0 B C tb rb T U L w) : WF U := by
  obtain ⟨_, h, _⟩ := DI.right h
  exact h.wf
theorem DT.len (h : DT w0 B C tb rb T U L w) : U.nodes.length ≤ 1000000 := by
  obtain ⟨_, h, _⟩ := DI.right h
  exact h.len
theorem DT.law (h : DT w0 B C tb rb T U L w) : ∀ k, L k → w0.heap.size ≤ k ∧ k < w.heap.size := by
  obtain ⟨_, _, h2, _⟩ := h
  exact h2
/-- the law's cells stay -/
theorem own_cell {b o : Nat} {v : Value} (hk : Keeps (Own w0 L) w w') (hL : L b) (hc : w.cell? ⟨b, o, none⟩ = some v) : w'.cell? ⟨b, o, none⟩ = some v := by
  rw [World.cell?_of_block (w := w) (hk.block b (lt_of_cell hc) fun hx => hx.2 hL)]
  exact hc
theorem Elem_da (h : DT w0 B C tb rb T U L w) (sp : Int) (nm : ByteArray) (at' : List Pair) (n : Nat) (a : Option Addr) (c : Nat) (hnl : n = at'.length) (hc : a = none → c = 0) (hlen : at'.length ≤ 1048576) (ha : At w a (pairsV at')) :
    Calls Tryz.prog 41 #[.pointer (some ⟨tb, 0, none⟩), .int .i64 sp, .string nm, .slice a n c] w fun e w' => e = .returned (.tuple #[.int .i64 (mkF T (elemN sp nm at')).2.1, .int .i64 (mkF T (elemN sp nm at')).2.2]) ∧ DT w0 B C tb rb (mkF T (elemN sp nm at')).1 U L w' ∧ Keeps (Own w0 L) w w' :=
  DI.callA (Q := fun e _ => e = .returned (.tuple #[.int .i64 (mkF T (elemN sp nm at')).2.1, .int .i64 (mkF T (elemN sp nm at')).2.2])) (ri_side ..) h fun _ h => Elem_tx h sp nm at' n a c hnl hc hlen ha
theorem Elem_db (h : DT w0 B C tb rb T U L w) (sp : Int) (nm : ByteArray) (at' : List Pair) (n : Nat) (a : Option Addr) (c : Nat) (hnl : n = at'.length) (hc : a = none → c = 0) (hlen : at'.length ≤ 1048576) (ha : At w a (pairsV at')) :
    Calls Tryz.prog 93 #[.pointer (some ⟨rb, 0, none⟩), .int .i64 sp, .string nm, .slice a n c] w fun e w' => e = .returned (.tuple #[.int .i64 (mkF U (elemN sp nm at')).2.1, .int .i64 (mkF U (elemN sp nm at')).2.2]) ∧ DT w0 B C tb rb T (mkF U (elemN sp nm at')).1 L w' ∧ Keeps (Own w0 L) w w' :=
  DI.callB (Q := fun e _ => e = .returned (.tuple #[.int .i64 (mkF U (elemN sp nm at')).2.1, .int .i64 (mkF U (elemN sp nm at')).2.2])) (tx_side ..) (ri_side ..) (ri_side ..) h fun _ h => rElem_ri h sp nm at' n a c hnl hc hlen ha
theorem Like_da (h : DT w0 B C tb rb T U L w) (n : Int) :
    Calls Tryz.prog 90 #[.pointer (some ⟨tb, 0, none⟩), .int .i64 n] w fun e w' => e = .returned (.tuple #[.int .i64 (likeF T n).2.1, .int .i64 (likeF T n).2.2]) ∧ DT w0 B C tb rb (likeF T n).1 U L w' ∧ Keeps (Own w0 L) w w' :=
  DI.callA (Q := fun e _ => e = .returned (.tuple #[.int .i64 (likeF T n).2.1, .int .i64 (likeF T n).2.2])) (ri_side ..) h fun _ h => Like_tx h n
theorem Like_db (h : DT w0 B C tb rb T U L w) (n : Int) :
    Calls Tryz.prog 105 #[.pointer (some ⟨rb, 0, none⟩), .int .i64 n] w fun e w' => e = .returned (.tuple #[.int .i64 (likeF U n).2.1, .int .i64 (likeF U n).2.2]) ∧ DT w0 B C tb rb T (likeF U n).1 L w' ∧ Keeps (Own w0 L) w w' :=
  DI.callB (Q := fun e _ => e = .returned (.tuple #[.int .i64 (likeF U n).2.1, .int .i64 (likeF U n).2.2])) (tx_side ..) (ri_side ..) (ri_side ..) h fun _ h => rLike_ri h n
theorem Put_da (h : DT w0 B C tb rb T U L w) (a b n : Int) :
    Calls Tryz.prog 43 #[.pointer (some ⟨tb, 0, none⟩), .int .i64 a, .int .i64 b, .int .i64 n] w fun e w' => e = .returned (.int .i64 (putE T a b n).2) ∧ DT w0 B C tb rb (putE T a b n).1 U L w' ∧ Keeps (Own w0 L) w w' :=
  DI.callA (Q := fun e _ => e = .returned (.int .i64 (putE T a b n).2)) (ri_side ..) h fun _ h => Put_tx h a b n
theorem Put_db (h : DT w0 B C tb rb T U L w) (a b n : Int) :
    Calls Tryz.prog 94 #[.pointer (some ⟨rb, 0, none⟩), .int .i64 a, .int .i64 b, .int .i64 n] w fun e w' => e = .returned (.int .i64 (putE U a b n).2) ∧ DT w0 B C tb rb T (putE U a b n).1 L w' ∧ Keeps (Own w0 L) w w' :=
  DI.callB (Q := fun e _ => e = .returned (.int .i64 (putE U a b n).2)) (tx_side ..) (ri_side ..) (ri_side ..) h fun _ h => rPut_ri h a b n
theorem Take_da (h : DT w0 B C tb rb T U L w) (n : Int) :
    Calls Tryz.prog 72 #[.pointer (some ⟨tb, 0, none⟩), .int .i64 n] w fun e w' => e = .returned (.int .i64 (takeE T n).2) ∧ DT w0 B C tb rb (takeE T n).1 U L w' ∧ Keeps (Own w0 L) w w' :=
  DI.callA (Q := fun e _ => e = .returned (.int .i64 (takeE T n).2)) (ri_side ..) h fun _ h => Take_tx h n
theorem Take_db (h : DT w0 B C tb rb T U L w) (n : Int) :
    Calls Tryz.prog 73 #[.pointer (some ⟨rb, 0, none⟩), .int .i64 n] w fun e w' => e = .returned (.int .i64 (takeE U n).2) ∧ DT w0 B C tb rb T (takeE U n).1 L w' ∧ Keeps (Own w0 L) w w' :=
  DI.callB (Q := fun e _ => e = .returned (.int .i64 (takeE U n).2)) (tx_side ..) (ri_side ..) (ri_side ..) h fun _ h => rTake_ri h n
theorem Move_da (h : DT w0 B C tb rb T U L w) (a b : Int) :
    Calls Tryz.prog 115 #[.pointer (some ⟨tb, 0, none⟩), .int .i64 a, .int .i64 b] w fun e w' => e = .returned (.int .i64 (moveE T a b).2) ∧ DT w0 B C tb rb (moveE T a b).1 U L w' ∧ Keeps (Own w0 L) w w' :=
  DI.callA (Q := fun e _ => e = .returned (.int .i64 (moveE T a b).2)) (ri_side ..) h fun _ h => Move_tx h a b
theorem Move_db (h : DT w0 B C tb rb T U L w) (a b : Int) :
    Calls Tryz.prog 107 #[.pointer (some ⟨rb, 0, none⟩), .int .i64 a, .int .i64 b] w fun e w' => e = .returned (.int .i64 (moveE U a b).2) ∧ DT w0 B C tb rb T (moveE U a b).1 L w' ∧ Keeps (Own w0 L) w w' :=
  DI.callB (Q := fun e _ => e = .returned (.int .i64 (moveE U a b).2)) (tx_side ..) (ri_side ..) (ri_side ..) h fun _ h => rMove_ri h a b
theorem Text_da (h : DT w0 B C tb rb T U L w) (a b : Int) (s : ByteArray) {B' : Nat} (hB : B + s.size ≤ B') (hB' : B' ≤ 9223372036854775807) :
    Calls Tryz.prog 48 #[.pointer (some ⟨tb, 0, none⟩), .int .i64 a, .int .i64 b, .string s] w fun e w' => e = .returned (.int .i64 (textE T a b s).2) ∧ DT w0 B' C tb rb (textE T a b s).1 U L w' ∧ Keeps (Own w0 L) w w' :=
  DI.callA (Q := fun e _ => e = .returned (.int .i64 (textE T a b s).2)) (ri_side ..) h fun _ h => Text_tx h a b s hB hB'
theorem Text_db (h : DT w0 B C tb rb T U L w) (a b : Int) (s : ByteArray) {B' : Nat} (hB : C + s.size ≤ B') (hB' : B' ≤ 9223372036854775807) :
    Calls Tryz.prog 59 #[.pointer (some ⟨rb, 0, none⟩), .int .i64 a, .int .i64 b, .string s] w fun e w' => e = .returned (.int .i64 (textE U a b s).2) ∧ DT w0 B B' tb rb T (textE U a b s).1 L w' ∧ Keeps (Own w0 L) w w' :=
  DI.callB (Q := fun e _ => e = .returned (.int .i64 (textE U a b s).2)) (tx_side ..) (ri_side ..) (ri_side ..) h fun _ h => rText_ri h a b s hB hB'
end
end Go.Proofs.YtclflmjpdglgiaaGreat
