/-
  One act on both stacks, whatever its kind; and how both stacks begin. No conditions beyond those that each lemma types.
-/
import Derived.Test.YtidbihdnginmcaaRstQ
import Derived.Test.YtidbihdnginmcaaRstR
import Derived.Test.YtidbihdnginmcaaRstP
import Derived.Test.YtidbihdnginmcaaOpenArgsC
namespace Go.Proofs.Ytidbihdnginmcaa
open Go.RowKit Mem

theorem untilF_len (T : TreeD) (names : List ByteArray) : ∀ l : List Int, (untilF T names l).length ≤ l.length
  | [] => by simp [untilF]
  | x :: r => by
    have := untilF_len T names r
    rw [untilF]
    split <;> simp <;> omega
theorem stClear_len (T : TreeD) (names : List ByteArray) : ∀ l : List Int, (stClear T names l).length ≤ l.length
  | [] => by simp [stClear]
  | x :: r => by
    have := stClear_len T names r
    rw [stClear]
    split <;> simp <;> omega
theorem stImply_len (T : TreeD) (but : ByteArray) : ∀ l : List Int, (stImply T but l).length ≤ l.length
  | [] => by simp [stImply]
  | x :: r => by
    have := stImply_len T but r
    rw [stImply]
    split <;> simp <;> omega
/-- what an act leaves open -/
def actL (T : TreeD) (l : List Int) (x : DoD) : List Int :=
  if x.kind = 0 then l ++ [x.n] else if x.kind = 1 then l.dropLast else if x.kind = 2 then rmF l x.n else if x.kind = 3 then swapF l x.n x.m else if x.kind = 4 then insF l x.n x.m
  else if x.kind = 5 then (untilF T x.names l.reverse).reverse else if x.kind = 6 then (stClear T x.names l.reverse).reverse else if x.kind = 7 then (stImply T (butF x.names) l.reverse).reverse else l
theorem actL_len (T : TreeD) (l : List Int) (x : DoD) : (actL T l x).length ≤ l.length + 1 := by
  have h2 := dropF_len l (rfind l x.n)
  have h4 : (insF l x.n x.m).length ≤ l.length + 1 := by
    rw [← insK_end]
    have := insK_len l (rfind l x.n) x.m l.length
    omega
  have h5 := untilF_len T x.names l.reverse
  have h6 := stClear_len T x.names l.reverse
  have h7 := stImply_len T (butF x.names) l.reverse
  rw [List.length_reverse] at h5 h6 h7
  unfold actL
  split
  · simp
  split
  · simp; omega
  split
  · unfold rmF; omega
  split
  · unfold swapF; split <;> simp
  split
  · exact h4
  split
  · rw [List.length_reverse]; omega
  split
  · rw [List.length_reverse]; omega
  split
  · rw [List.length_reverse]; omega
  · omega

section
variable {w0 w w1 w' : World} {B C tb rb sb qb : Nat} {T U : TreeD} {l : List Int} {L : Nat → Prop}
theorem act_any (h : DS w0 B C tb rb sb qb T T l l L w) (x : DoD) (aa : Option Addr) (ac : Nat) (hn : x.names.length ≤ 1048576) (hlt : l.length < 1000000) (hc : aa = none → ac = 0) (ha : At w aa (strsV x.names)) :
    Calls Try.prog 32 #[.pointer (some ⟨sb, 0, none⟩), .pointer (some ⟨qb, 0, none⟩), .agg #[.int .i64 x.kind, .int .i64 x.n, .int .i64 x.m, .slice aa x.names.length ac]] w fun e w' =>
      e = .returned (.bool true) ∧ DS w0 B C tb rb sb qb T T (actL T l x) (actL T l x) L w' ∧ Keeps (Own w0 L) w w' := by
  by_cases k0 : x.kind = 0
  · rw [actL, if_pos k0, k0]
    exact act_0 h x.n x.m x.names aa ac hn hlt hc ha
  by_cases k1 : x.kind = 1
  · rw [actL, if_neg k0, if_pos k1, k1]
    exact act_1 h x.n x.m x.names aa ac hn hc ha
  by_cases k2 : x.kind = 2
  · rw [actL, if_neg k0, if_neg k1, if_pos k2, k2]
    exact act_2 h x.n x.m x.names aa ac hn hc ha
  by_cases k3 : x.kind = 3
  · rw [actL, if_neg k0, if_neg k1, if_neg k2, if_pos k3, k3]
    exact act_3 h x.n x.m x.names aa ac hn hc ha
  by_cases k4 : x.kind = 4
  · rw [actL, if_neg k0, if_neg k1, if_neg k2, if_neg k3, if_pos k4, k4]
    exact act_4 h x.n x.m x.names aa ac hn hlt hc ha
  by_cases k5 : x.kind = 5
  · rw [actL, if_neg k0, if_neg k1, if_neg k2, if_neg k3, if_neg k4, if_pos k5, k5]
    exact act_5 h x.n x.m x.names aa ac hn hc ha
  by_cases k6 : x.kind = 6
  · rw [actL, if_neg k0, if_neg k1, if_neg k2, if_neg k3, if_neg k4, if_neg k5, if_pos k6, k6]
    exact act_6 h x.n x.m x.names aa ac hn hc ha
  by_cases k7 : x.kind = 7
  · rw [actL, if_neg k0, if_neg k1, if_neg k2, if_neg k3, if_neg k4, if_neg k5, if_neg k6, if_pos k7, k7]
    exact act_7 h x.n x.m x.names aa ac hn hc ha
  rw [actL, if_neg k0, if_neg k1, if_neg k2, if_neg k3, if_neg k4, if_neg k5, if_neg k6, if_neg k7]
  by_cases k8 : x.kind = 8
  · rw [k8]
    exact act_8 h x.n x.m x.names aa ac hn hc ha
  by_cases k9 : x.kind = 9
  · rw [k9]
    exact act_9 h x.n x.m x.names aa ac hn hc ha
  by_cases k10 : x.kind = 10
  · rw [k10]
    exact act_10 h x.n x.m x.names aa ac hn hc ha
  exact act_other h x.kind x.n x.m x.names aa ac hn (by simpa using k0) (by simpa using k1) (by simpa using k2) (by simpa using k3) (by simpa using k4) (by simpa using k5) (by simpa using k6) (by simpa using k7) (by simpa using k8) (by simpa using k9) (by simpa using k10) hc ha

/-- the program's stack begins -/
theorem SI.start {ex : Nat → Prop} (h : TX w0 B tb ex T w) (hb : Below w.heap.size w w1) (hs : StkO w1 sb tb none []) (hsb : w.heap.size ≤ sb) : SI w0 B tb sb ex T [] w1 := by
  have hl := hs.lt sb (.inl rfl)
  have h0 := h.below.size
  have he := h.exlt
  obtain ⟨g, far, h1, h2⟩ := h.foreign (ex' := fun k => ex k ∨ k = sb) (F := fun _ => False) (Keeps.ofBelow hb) (fun _ _ h => h.elim) fun k hk => by
    rcases hk with hk | rfl
    · exact ⟨.inl hk, Nat.lt_of_lt_of_le (he k hk) hb.size⟩
    · exact ⟨.inr hsb, hl⟩
  refine ⟨g, none, far, h1, hs, ?_, fun k hk => h2 k (.inl hk), Nat.zero_le _⟩
  rintro k (rfl | hk)
  · exact ⟨h2 _ (.inr rfl), by omega, fun hx => by have := he _ hx; omega⟩
  · cases hk
/-- the document's stack begins -/
theorem RSI.start {ex : Nat → Prop} (h : RI w0 C rb ex U w) (hb : Below w.heap.size w w1) (hs : RstO w1 qb rb none []) (hsb : w.heap.size ≤ qb) : RSI w0 C rb qb ex U [] w1 := by
  have hl := hs.lt qb (.inl rfl)
  have h0 := h.below.size
  have he := h.exlt
  obtain ⟨gn, gk, far, h1⟩ := h.foreign (ex' := fun k => ex k ∨ k = qb) (F := fun _ => False) (Keeps.ofBelow hb) (fun _ _ h => h.elim) fun k hk => by
    rcases hk with hk | rfl
    · exact ⟨.inl hk, Nat.lt_of_lt_of_le (he k hk) hb.size⟩
    · exact ⟨.inr hsb, hl⟩
  refine ⟨gn, gk, none, far, ⟨h1.tree, h1.wf, h1.below, h1.own, fun k hk => h1.exf k (.inl hk), h1.len, h1.most, h1.att, h1.txt⟩, hs, ?_, Nat.zero_le _⟩
  rintro k (rfl | hk)
  · exact ⟨h1.exf _ (.inr rfl), by omega, fun hx => by have := he _ hx; omega⟩
  · cases hk
theorem DI.stepA {A A' B' : (Nat → Prop) → World → Prop} (hB : Side w0 B') (h : DI w0 A B' L w) (hc : ∀ ex, A ex w → A' ex w' ∧ Keeps (Own w0 ex) w w') : DI w0 A' B' L w' ∧ Keeps (Own w0 L) w w' := by
  obtain ⟨PB, h1, h2, h3, h4⟩ := h
  obtain ⟨ha, hk⟩ := hc _ h3
  have hsz := hk.size
  refine ⟨⟨PB, fun k hk => ⟨(h1 k hk).1, Nat.lt_of_lt_of_le (h1 k hk).2.1 hsz, (h1 k hk).2.2⟩, fun k hk => ⟨(h2 k hk).1, Nat.lt_of_lt_of_le (h2 k hk).2 hsz⟩, ha, ?_⟩, hk.mono fun k _ hx => ⟨hx.1, fun hL => hx.2 (.inr hL)⟩⟩
  refine hB.foreign h4 hk (fun k hlt hx => ⟨⟨hx.1, hlt, fun hP => hx.2 (.inl hP)⟩, hx.1⟩) fun k hx => ⟨?_, hx.2.1⟩
  rcases Nat.lt_or_ge k w.heap.size with h | h
  · exact .inl ⟨hx.1, h, hx.2.2⟩
  · exact .inr h
/-- both stacks begin -/
theorem DS.start (h : DT w0 B C tb rb T U L w) (hb : Below w.heap.size w w1) (hs : StkO w1 w.heap.size tb none []) (hb' : Below w1.heap.size w1 w') (hq : RstO w' w1.heap.size rb none []) : DS w0 B C tb rb w.heap.size w1.heap.size T U [] [] L w' := by
  obtain ⟨h1, _⟩ := DI.stepA (A' := fun ex w' => SI w0 B tb w.heap.size ex T [] w') (ri_side ..) h fun ex hA => ⟨SI.start hA hb hs (Nat.le_refl _), Keeps.ofBelow hb⟩
  exact (DI.stepB (B' := fun ex w' => RSI w0 C rb w1.heap.size ex U [] w') (si_side ..) (ri_side ..) (rsi_side ..) h1 fun ex hB => ⟨RSI.start hB hb' hq (Nat.le_refl _), Keeps.ofBelow hb'⟩).1
/-- both trees begin -/
theorem DT.begin {w2 w3 : World} (h1 : TX w0 B tb (fun _ => False) T w2) (h2 : RI w0 C rb (fun k => w0.heap.size ≤ k ∧ k < w2.heap.size) U w3) (hb : Below w2.heap.size w2 w3) : DT w0 B C tb rb T U (fun _ => False) w3 := by
  have hs := h1.below.size
  refine ⟨fun k => w2.heap.size ≤ k ∧ k < w3.heap.size, fun k hk => ⟨fun h => h, hk.2, by omega⟩, fun _ h => h.elim, ?_, ?_⟩
  · exact h1.foreign (F := fun _ => False) (Keeps.ofBelow hb) (fun _ _ h => h.elim) fun k hk => by
      rcases hk with hk | hk
      · exact ⟨.inr hk.1, hk.2⟩
      · exact hk.elim
  · refine h2.foreign (F := fun _ => False) (Keeps.refl _ _) (fun _ _ h => h.elim) fun k hk => ⟨.inl ⟨hk.1, ?_⟩, hk.2.1⟩
    rcases Nat.lt_or_ge k w2.heap.size with h | h
    · exact h
    · exact absurd ⟨h, hk.2.1⟩ hk.2.2
end
end Go.Proofs.Ytidbihdnginmcaa
