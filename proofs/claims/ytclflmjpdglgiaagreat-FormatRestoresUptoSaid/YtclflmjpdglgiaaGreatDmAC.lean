import Derived.Test.YtclflmjpdglgiaaGreatSide
import Derived.Test.YtclflmjpdglgiaaGreatDlJ
import Derived.Test.YtclflmjpdglgiaaGreatFmF
/-
  Both sides of law 15 in one world: the program's list and the document's, each over its tree and open elements: what a call on one leaves of the other. No conditions beyond those that each lemma types.
-/
namespace Go.Proofs.YtclflmjpdglgiaaGreat
open Go.RowKit Mem

section
variable {w0 w w' : World} {B B' C tb sb lb rb qb kb : Nat} {ex ex' : Nat → Prop} {T T' : TreeD} {l l' ent ent' : List Int} {on on' : Bool}
theorem LI.side {F : Nat → Prop} (h : LI w0 B tb sb lb ex T l ent on w) (hk : Keeps F w w') (hF : ∀ k, k < w.heap.size → F k → ex k ∧ w0.heap.size ≤ k) (he : ∀ k, ex' k → (ex k ∨ w.heap.size ≤ k) ∧ k < w'.heap.size) : LI w0 B tb sb lb ex' T l ent on w' :=
  h.foreign (F := fun k => F k ∧ k < w.heap.size) (hk.mono fun _ h1 h2 => ⟨h2, h1⟩) (fun k hx => hF k hx.2 hx.1) he
theorem LD.side {F : Nat → Prop} (h : LD w0 B rb qb kb ex T l ent on w) (hk : Keeps F w w') (hF : ∀ k, k < w.heap.size → F k → ex k ∧ w0.heap.size ≤ k) (he : ∀ k, ex' k → (ex k ∨ w.heap.size ≤ k) ∧ k < w'.heap.size) : LD w0 B rb qb kb ex' T l ent on w' :=
  h.foreign (F := fun k => F k ∧ k < w.heap.size) (hk.mono fun _ h1 h2 => ⟨h2, h1⟩) (fun k hx => hF k hx.2 hx.1) he
theorem li_side (w0 : World) (B tb sb lb : Nat) (T : TreeD) (l ent : List Int) (on : Bool) : Side w0 fun ex w => LI w0 B tb sb lb ex T l ent on w := ⟨fun h => h.side, fun h => h.exlt, fun h => h.below⟩
theorem ld_side (w0 : World) (B rb qb kb : Nat) (T : TreeD) (l ent : List Int) (on : Bool) : Side w0 fun ex w => LD w0 B rb qb kb ex T l ent on w := ⟨fun h => h.side, fun h => h.exlt, fun h => h.below⟩
theorem Until_li (h : LI w0 B tb sb lb ex T l ent on w) (names : List ByteArray) (a : Option Addr) (c : Nat) (ha : AtF (Own w0 ex) w a (strsV names)) (hn : names.length ≤ 1048576) :
    Calls Tryz.prog 36 #[.pointer (some ⟨sb, 0, none⟩), .slice a names.length c] w fun e w' => e = .returned (.tuple #[]) ∧ LI w0 B tb sb lb ex T (untilF T names l.reverse).reverse ent on w' ∧ Keeps (Own w0 ex) w w' := by
  obtain ⟨ge, h1, h2, h3, h4⟩ := h
  exact (Until_si h2 names a c (AtF.other ha fun b _ hx => ⟨hx.1, fun hy => hx.2 (.inl hy)⟩) hn).mono fun e w' ⟨hq, hs, hk⟩ => ⟨hq, LI.si_step h1 h3 h4 hs hk⟩
end

/-- both lists -/
def DL (w0 : World) (B C tb sb lb rb qb kb : Nat) (S : AS) (on : Bool) (U : AS) (un : Bool) (L : Nat → Prop) (w : World) : Prop :=
  DI w0 (fun ex w => LI w0 B tb sb lb ex S.T S.l S.ent on w) (fun ex w => LD w0 C rb qb kb ex U.T U.l U.ent un w) L w

section
variable {w0 w w' : World} {B C B' C' tb sb lb rb qb kb : Nat} {S S' U U' : AS} {on on' un un' : Bool} {L L' : Nat → Prop}
theorem DL.lay (h : DL w0 B C tb sb lb rb qb kb S on U un L w) (hb : Below w.heap.size w w') : DL w0 B C tb sb lb rb qb kb S on U un (fun k => L k ∨ (w.heap.size ≤ k ∧ k < w'.heap.size)) w' := DI.lay (li_side ..) (ld_side ..) h hb
theorem DL.write (h : DL w0 B C tb sb lb rb qb kb S on U un L w) (hk : Keeps L w w') : DL w0 B C tb sb lb rb qb kb S on U un L w' := DI.write (li_side ..) (ld_side ..) h hk
theorem DL.less (h : DL w0 B C tb sb lb rb qb kb S on U un L w) (hL : ∀ k, L' k → L k) : DL w0 B C tb sb lb rb qb kb S on U un L' w := DI.less (li_side ..) h hL
theorem DL.world (h : DL w0 B C tb sb lb rb qb kb S on U un L w) (hb : Below w.heap.size w w') : DL w0 B C tb sb lb rb qb kb S on U un L w' := DI.world (li_side ..) (ld_side ..) h hb
theorem DL.below (h : DL w0 B C tb sb lb rb qb kb S on U un L w) : Below w0.heap.size w0 w := DI.below (ld_side ..) h
theorem DL.more (h : DL w0 B C tb sb lb rb qb kb S on U un L w) (hB : B ≤ B') (hC : C ≤ C') : DL w0 B' C' tb sb lb rb qb kb S on U un L w := (DI.monoA h fun _ _ h => LI.more h hB).monoB fun _ _ h => LD.more h hC
theorem DL.law (h : DL w0 B C tb sb lb rb qb kb S on U un L w) : ∀ k, L k → w0.heap.size ≤ k ∧ k < w.heap.size := by
  obtain ⟨_, _, h2, _⟩ := h
  exact h2
theorem DL.li (h : DL w0 B C tb sb lb rb qb kb S on U un L w) : ∃ ex, LI w0 B tb sb lb ex S.T S.l S.ent on w ∧ ∀ k, L k → ex k := DI.left h
theorem DL.ld (h : DL w0 B C tb sb lb rb qb kb S on U un L w) : ∃ ex, LD w0 C rb qb kb ex U.T U.l U.ent un w ∧ ∀ k, L k → ex k := DI.right h
theorem DL.cells (h : DL w0 B C tb sb lb rb qb kb S on U un L w) : w.cell? ⟨kb, 0, none⟩ = some (.pointer (some ⟨rb, 0, none⟩)) ∧ w.cell? ⟨kb, 1, none⟩ = some (.pointer (some ⟨qb, 0, none⟩)) := by
  obtain ⟨ex, h, _⟩ := h.ld
  obtain ⟨_, _, c0, c1, _⟩ := h.cells
  exact ⟨c0, c1⟩
theorem DL.callP {P : Program} {f : FuncId} {args : Array Value} {Q : Ending → World → Prop} (h : DL w0 B C tb sb lb rb qb kb S on U un L w) (hc : ∀ ex, (∀ k, L k → ex k) → LI w0 B tb sb lb ex S.T S.l S.ent on w → Calls P f args w fun e w' => Q e w' ∧ LI w0 B' tb sb lb ex S'.T S'.l S'.ent on' w' ∧ Keeps (Own w0 ex) w w') :
    Calls P f args w fun e w' => Q e w' ∧ DL w0 B' C tb sb lb rb qb kb S' on' U un L w' ∧ Keeps (Own w0 L) w w' := by
  obtain ⟨PB, h1, h2, h3, h4⟩ := h
  refine (hc _ (fun k hk => .inr hk) h3).mono ?_
  rintro e w' ⟨hq, ha, hk⟩
  have hsz := hk.size
  refine ⟨hq, ⟨PB, fun k hk => ⟨(h1 k hk).1, Nat.lt_of_lt_of_le (h1 k hk).2.1 hsz, (h1 k hk).2.2⟩, fun k hk => ⟨(h2 k hk).1, Nat.lt_of_lt_of_le (h2 k hk).2 hsz⟩, ha, ?_⟩, hk.mono fun k _ hx => ⟨hx.1, fun hL => hx.2 (.inr hL)⟩⟩
  refine (ld_side w0 C rb qb kb U.T U.l U.ent un).foreign h4 hk (fun k hlt hx => ⟨⟨hx.1, hlt, fun hP => hx.2 (.inl hP)⟩, hx.1⟩) fun k hx => ⟨?_, hx.2.1⟩
  rcases Nat.lt_or_ge k w.heap.size with h | h
  · exact .inl ⟨hx.1, h, hx.2.2⟩
  · exact .inr h
theorem DL.callD {P : Program} {f : FuncId} {args : Array Value} {Q : Ending → World → Prop} (h : DL w0 B C tb sb lb rb qb kb S on U un L w) (hc : ∀ ex, (∀ k, L k → ex k) → LD w0 C rb qb kb ex U.T U.l U.ent un w → Calls P f args w fun e w' => Q e w' ∧ LD w0 C' rb qb kb ex U'.T U'.l U'.ent un' w' ∧ Keeps (Own w0 ex) w w') :
    Calls P f args w fun e w' => Q e w' ∧ DL w0 B C' tb sb lb rb qb kb S on U' un' L w' ∧ Keeps (Own w0 L) w w' := by
  obtain ⟨PB, h1, h2, h3, h4⟩ := h
  have hs0 := h4.below.size
  refine (hc _ (fun k hk => ⟨(h2 k hk).1, (h2 k hk).2, fun hP => (h1 k hP).1 hk⟩) h4).mono ?_
  rintro e w' ⟨hq, hb, hk⟩
  have hsz := hk.size
  refine ⟨hq, ⟨fun k => PB k ∨ (w.heap.size ≤ k ∧ k < w'.heap.size), ?_, fun k hk => ⟨(h2 k hk).1, Nat.lt_of_lt_of_le (h2 k hk).2 hsz⟩, ?_, ?_⟩, hk.mono fun k hlt hx => ⟨hx.1, fun hL => hx.2 ⟨hx.1, hlt, fun hP => (h1 k hP).1 hL⟩⟩⟩
  · rintro k (hx | hx)
    · exact ⟨(h1 k hx).1, Nat.lt_of_lt_of_le (h1 k hx).2.1 hsz, (h1 k hx).2.2⟩
    · exact ⟨fun hL => by have := (h2 k hL).2; omega, hx.2, by omega⟩
  · refine (li_side w0 B tb sb lb S.T S.l S.ent on).foreign h3 hk (fun k hlt hx => ⟨?_, hx.1⟩) ?_
    · refine .inl ?_
      exact Classical.byContradiction fun hn => hx.2 ⟨hx.1, hlt, hn⟩
    · rintro k ((hx | hx) | hx)
      · exact ⟨.inl (.inl hx), Nat.lt_of_lt_of_le (h1 k hx).2.1 hsz⟩
      · exact ⟨.inr hx.1, hx.2⟩
      · exact ⟨.inl (.inr hx), Nat.lt_of_lt_of_le (h2 k hx).2 hsz⟩
  · refine (ld_side w0 C' rb qb kb U'.T U'.l U'.ent un').foreign hb (Keeps.refl (fun _ => False) w') (fun _ _ h => h.elim) fun k hx => ⟨.inl ⟨hx.1, ?_, fun hP => hx.2.2 (.inl hP)⟩, hx.2.1⟩
    rcases Nat.lt_or_ge k w.heap.size with h | h
    · exact h
    · exact absurd (.inr ⟨h, hx.2.1⟩) hx.2.2
end
end Go.Proofs.YtclflmjpdglgiaaGreat

/-
  Contracts: both lists are made: colanderref15.New, law 15's begun; the law's pick: an element's number of a raw one. No conditions beyond those that each lemma types.
-/
namespace Go.Proofs.YtclflmjpdglgiaaGreat
open Go.RowKit Mem

theorem dNew_ld (w0 w : World) (most : Int) (hm : most ≤ 5000) (ex : Nat → Prop) (hex : ∀ k, ex k → k < w.heap.size) (hb : Below w0.heap.size w0 w) : Calls Tryz.prog 22 #[.int .i64 most] w fun e w' =>
    ∃ kb rb qb, e = .returned (.pointer (some ⟨kb, 0, none⟩)) ∧ LD w0 0 rb qb kb ex ⟨[rootN], most, noFar⟩ [] [] false w' ∧ Below w.heap.size w w' := by
  have HN := Lib.hid (rNew_ri w0 w most hm ex hex hb)
  have HEX := Lib.hid hex
  have HB0 := Lib.hid hb
  clear hex hb
  go_enter Tryz.func22, Tryz.ntmps22
  go_wp2_with fail
  refine HN.out.mono ?_
  rintro e w1 ⟨rb, rfl, h1, hb1⟩
  have H1 := Lib.hid h1
  have HB1 := Lib.hid hb1
  clear h1 hb1
  go_wp2_with fail
  go_ret
  have hs := HB0.out.size
  have hs1 := HB1.out.size
  have hbA := (Below.refl w1.heap.size w1).alloc (Nat.le_refl _) (.cells #[.pointer (some ⟨rb, 0, none⟩), .slice none 0 0] 83)
  have hbB := hbA.alloc (by simp) (.cells #[.pointer (some ⟨rb, 0, none⟩), .pointer (some ⟨w1.heap.size, 0, none⟩), .slice none 0 0, .bool false] 58)
  have h3 := H1.out.foreign (F := fun _ => False) (ex' := fun k => ex k ∨ k = w1.heap.size ∨ k = w1.heap.size + 1) (Keeps.ofBelow hbB) (fun _ _ h => h.elim) (fun k hk => by
    rcases hk with hk | hk | hk
    · exact ⟨.inl hk, by have := HEX.out k hk; simp; omega⟩
    · exact ⟨.inr (by omega), by simp; omega⟩
    · exact ⟨.inr (by omega), by simp; omega⟩)
  obtain ⟨gn, gk, far, hr⟩ := h3
  refine ⟨w1.heap.size + 1, rb, w1.heap.size, ?_, ⟨none, ⟨.slice none 0 0, ?_, OwnI.nil _, by simp⟩, ⟨gn, gk, none, far, ⟨hr.tree, hr.wf, hr.below, hr.own, fun k hk => ?_, hr.len, hr.most, hr.att, hr.txt⟩, ⟨.slice none 0 0, ?_, OwnI.nil _, by simp⟩, fun k hk => ?_, Nat.zero_le _⟩, fun k hk => ?_, Nat.zero_le _⟩, belowCall HB1.out hbB⟩
  · simp
  · exact heap_new_at (by simp)
  · rcases hk with hk | hk
    · exact hr.exf k (.inl hk)
    · rcases hk with hk | hk
      · exact hr.exf k (.inr (.inr hk))
      · cases hk
  · exact (Below.heap_alloc _ _ _ (by simp)).trans (heap_alloc_new w1 _)
  · rcases hk with hk | hk
    · refine ⟨hr.exf k (.inr (.inl hk)), by omega, ?_⟩
      rintro (hx | hx)
      · have := HEX.out k hx; omega
      · rcases hx with hx | hx
        · omega
        · cases hx
    · cases hk
  · rcases hk with hk | hk
    · exact ⟨by omega, fun hx => by have := HEX.out k hx; omega⟩
    · cases hk

theorem DL.start {w0 w2 w3 : World} {B C tb sb lb rb qb kb : Nat} {S U : AS} {on un : Bool} (h1 : LI w0 B tb sb lb (fun _ => False) S.T S.l S.ent on w2) (h2 : LD w0 C rb qb kb (fun k => w0.heap.size ≤ k ∧ k < w2.heap.size) U.T U.l U.ent un w3) (hb : Below w2.heap.size w2 w3) : DL w0 B C tb sb lb rb qb kb S on U un (fun _ => False) w3 := by
  have hs := h1.below.size
  refine ⟨fun k => w2.heap.size ≤ k ∧ k < w3.heap.size, fun k hk => ⟨fun h => h, hk.2, by omega⟩, fun _ h => h.elim, ?_, ?_⟩
  · exact h1.side (F := fun _ => False) (Keeps.ofBelow hb) (fun _ _ h => h.elim) fun k hk => by
      rcases hk with hk | hk
      · exact ⟨.inr hk.1, hk.2⟩
      · exact hk.elim
  · refine h2.side (F := fun _ => False) (Keeps.refl _ _) (fun _ _ h => h.elim) fun k hk => ⟨.inl ⟨hk.1, ?_⟩, hk.2.1⟩
    rcases Nat.lt_or_ge k w2.heap.size with h | h
    · exact h
    · exact absurd ⟨h, hk.2.1⟩ hk.2.2

/-- the law's world: tree, open elements, list; the document's list -/
def WX (xb tb sb lb kb : Nat) (w : World) : Prop := Row w xb [.pointer (some ⟨tb, 0, none⟩), .pointer (some ⟨sb, 0, none⟩), .pointer (some ⟨lb, 0, none⟩), .pointer (some ⟨kb, 0, none⟩)]
theorem WX.kept {xb tb sb lb kb : Nat} {w0 w w' : World} {L : Nat → Prop} (h : WX xb tb sb lb kb w) (hx : L xb) (hk : Keeps (Own w0 L) w w') : WX xb tb sb lb kb w' :=
  Row.kept h (hk.block xb (Row.lt h) (fun h => h.2 hx))
theorem WX.below {xb tb sb lb kb : Nat} {w w' : World} (h : WX xb tb sb lb kb w) (hb : Below w.heap.size w w') : WX xb tb sb lb kb w' :=
  h.kept (w0 := w) (L := fun _ => True) trivial (Keeps.ofBelow hb)
theorem WX.cells {xb tb sb lb kb : Nat} {w : World} (h : WX xb tb sb lb kb w) : w.cell? ⟨xb, 0, none⟩ = some (.pointer (some ⟨tb, 0, none⟩)) ∧ w.cell? ⟨xb, 1, none⟩ = some (.pointer (some ⟨sb, 0, none⟩)) ∧ w.cell? ⟨xb, 2, none⟩ = some (.pointer (some ⟨lb, 0, none⟩)) ∧ w.cell? ⟨xb, 3, none⟩ = some (.pointer (some ⟨kb, 0, none⟩)) :=
  ⟨Row.cell h (j := 0) rfl, Row.cell h (j := 1) rfl, Row.cell h (j := 2) rfl, Row.cell h (j := 3) rfl⟩

theorem begunx_any (most : Int) (hm : most ≤ 5000) (w0 w : World) (hb : Below w0.heap.size w0 w) : Calls Tryz.prog 5 #[.int .i64 most] w fun e w' => ∃ xb tb sb lb rb qb kb, e = .returned (.pointer (some ⟨xb, 0, none⟩)) ∧ DL w0 0 0 tb sb lb rb qb kb ⟨⟨[rootN], most, noFar⟩, [], []⟩ false ⟨⟨[rootN], most, noFar⟩, [], []⟩ false (fun k => k = xb) w' ∧ WX xb tb sb lb kb w' := by
  have HT := Lib.hid (made_li most hm w0 w hb)
  go_enter Tryz.func5, Tryz.ntmps5
  go_wp2_with fail
  refine HT.out.mono ?_
  rintro e w1 ⟨tb, rfl, _, HS⟩
  have HS' := Lib.hid HS
  clear HS HT
  go_wp2_with fail
  refine HS'.out.mono ?_
  rintro e w2 ⟨sb, rfl, HN⟩
  have HN' := Lib.hid HN
  clear HN HS'
  go_wp2_with fail
  refine HN'.out.mono ?_
  rintro e w3 ⟨lb, rfl, h3⟩
  have H3 := Lib.hid h3
  clear h3 HN'
  have HR := Lib.hid (dNew_ld w0 w3 most hm (fun k => w0.heap.size ≤ k ∧ k < w3.heap.size) (fun k hk => hk.2) H3.out.below)
  go_wp2_with fail
  refine HR.out.mono ?_
  rintro e w4 ⟨kb, rb, qb, rfl, h4, hb4⟩
  have H4 := Lib.hid (DL.start (S := ⟨⟨[rootN], most, noFar⟩, [], []⟩) (U := ⟨⟨[rootN], most, noFar⟩, [], []⟩) H3.out h4 hb4)
  clear H3 HR hb4 h4
  go_wp2_with fail
  go_ret
  have h5 := H4.out.lay ((Below.refl w4.heap.size w4).alloc (Nat.le_refl _) (.cells #[.pointer (some ⟨tb, 0, none⟩), .pointer (some ⟨sb, 0, none⟩), .pointer (some ⟨lb, 0, none⟩), .pointer (some ⟨kb, 0, none⟩)] 36))
  exact ⟨_, tb, sb, lb, rb, qb, kb, rfl, h5.less fun k hk => by
    subst hk
    exact .inr ⟨Nat.le_refl _, by simp⟩, Row.alloc _ _ _⟩

set_option maxRecDepth 100000 in
set_option maxHeartbeats 8000000 in
theorem pick_any (w0 w : World) (B tb sb lb rb qb kb xb : Nat) (ex : Nat → Prop) (T : TreeD) (l ent : List Int) (on : Bool) (h : LD w0 B rb qb kb ex T l ent on w) (hx : WX xb tb sb lb kb w) (n : Int) (hnw : -9223372036854775808 ≤ n ∧ n ≤ 9223372036854775807) :
    Calls Tryz.prog 70 #[.pointer (some ⟨xb, 0, none⟩), .int .i64 n] w fun e w' => ∃ m, e = .returned (.int .i64 m) ∧ (m = 0 ∨ elemF T m = true) ∧ Below w.heap.size w w' := by
  obtain ⟨-, -, -, x3⟩ := hx.cells
  obtain ⟨-, -, c0, -, -⟩ := h.cells
  obtain ⟨gn, gk, far, hR⟩ := h.ref
  obtain ⟨capn, capk, p1, p2, -, -, r0, -, -, -, -, -⟩ := hR.head
  have r0' : w.cell? ⟨rb, 0, none⟩ = some (.slice (some ⟨gn, 0, none⟩) T.nodes.length capn) := r0
  have p1' : T.nodes.length ≤ capn := p1
  have HLen := Lib.hid (fun u (hu : Below w.heap.size w u) => rlen_any (farW far T) rb gn gk u (hR.below hu))
  have hlen := h.len
  have hN : ∀ i (hi : i < T.nodes.length), w.cell? ⟨gn, i * 6, none⟩ = some (.bool T.nodes[i].elem) := fun i hi => by
    obtain ⟨aa, ac, -, -, -, n0, -⟩ := hR.node6 (T := farW far T) (i := i) hi
    exact n0
  have HN := Lib.hid hN
  obtain ⟨i0, hi, hz0, hz1, hz2⟩ := info_parts stk_int
  have hpos : 1 ≤ T.nodes.length := by
    obtain ⟨hp, _⟩ := h.wf
    exact hp
  unfold maxLen at p2
  clear h hx hR r0 p1 hN
  go_enter Tryz.func70, Tryz.ntmps70
  go_wp2_with fail
  go_loopw [5, 6] (fun s5 s6 wr => ∃ (k : Nat) (M : List Int) (y : Value), y = s5 ∧ 1 ≤ k ∧ k ≤ T.nodes.length ∧ s6 = .int .i64 k ∧ wr.ownsRow w.heap.size 3 1 y M.length (intsV M) ∧ M.length ≤ k ∧ Hid (∀ y ∈ M, elemF T y = true) ∧ Below w.heap.size w wr) (fun _ s6 _ => T.nodes.length - (intOf s6).toNat)
  case atStart => exact ⟨1, [], _, rfl, Nat.le_refl _, hpos, rfl, World.ownsRow_nil _ _ _ _, Nat.zero_le _, Lib.hid (fun y hy => (List.not_mem_nil hy).elim), Below.refl _ _⟩
  case round =>
    obtain ⟨k, M, v, rfl, hk1, hk2, rfl, ho, hml, HM, hb⟩ := hrel
    have HO := Lib.hid ho
    have HB := Lib.hid hb
    have HLr := Lib.hid (HLen.out _ hb)
    have y3 := cell_later hb x3
    have d0 := cell_later hb c0
    have s0 := cell_later hb r0'
    have hln : (farW far T).nodes.length = T.nodes.length := rfl
    rw [hln] at HLr
    by_cases hlt : k < T.nodes.length
    · have hle : (k : Int) ≤ (T.nodes.length : Int) - 1 := by omega
      have n0 := cell_later hb (HN.out k hlt)
      have HE := Lib.hid (elemF_of T k hk1 hlt)
      generalize T.nodes[k].elem = el at *
      clear ho hb x3 c0 r0' hln
      cases el
      · go_wp2_with (go_at_call 109; go_must (refine HLr.out.mono ?_; rintro e w2 ⟨rfl, rfl⟩))
        go_roundw
        case rel => exact ⟨k + 1, M, _, rfl, by omega, by omega, by go_num, HO.out, by omega, HM, HB.out⟩
        case measure => simp [intOf]; omega
      · have b1 : M.length + 1 ≤ maxLen := by unfold maxLen; omega
        have b2 : (M.length + 1) * 8 ≤ 140737488355328 := by omega
        have HQ := Lib.hid (HO.out.alloc (.cells #[.int .i64 (k : Int)] 3))
        have HZ2 := Lib.hid (show w.heap.size ≤ (wr.alloc (.cells #[.int .i64 (k : Int)] 3)).heap.size from by have := HB.out.size; simp; omega)
        go_wp2_with (first | (go_at_call 109; go_must (refine HLr.out.mono ?_; rintro e w2 ⟨rfl, rfl⟩)) | (at_builtin; (refine wpList_append_slice _ rfl _ _ 30 rfl w.heap.size 3 i0 _ 1 8 Tryz.underlying30 hi hz0 hz1 hz2 rfl (by decide) _ M.length (intsV M) rfl HQ.out (some ⟨wr.heap.size, 0, none⟩) 1 1 (intsV [(k : Int)]) rfl rfl (fun h => by cases h) (at_alloc rfl rfl) (intsV_one _) b1 b2 HZ2.out ?_; intro v3 w3 hown3 hgr3; have HO3 := Lib.hid hown3; have HB3 := Lib.hid ((HB.out.alloc HB.out.size _).grown hgr3 HZ2.out (fun b hb => (HQ.out.lt b hb).1)); clear hown3 hgr3)))
        go_roundw
        case rel =>
          refine ⟨k + 1, M ++ [(k : Int)], _, rfl, by omega, by omega, by go_num, by rw [intsV_append, List.length_append]; exact HO3.out, by rw [List.length_append, List.length_singleton]; omega, Lib.hid (fun y hy => ?_), HB3.out⟩
          rcases List.mem_append.1 hy with hy | hy
          · exact HM.out y hy
          · rw [List.mem_singleton.1 hy, HE.out]
        case measure => simp [intOf]; omega
    · obtain rfl : k = T.nodes.length := by omega
      have hle : ¬ (T.nodes.length : Int) ≤ (T.nodes.length : Int) - 1 := by omega
      obtain ⟨av, cv, rfl, _, _, _, hat⟩ := own_at HO.out
      have HAt := Lib.hid hat
      clear ho hb x3 c0 r0' hln hat
      by_cases hM0 : M.length = 0
      · have hz : ((M.length : Int) == 0) = true := by rw [hM0]; rfl
        go_wp2_with (go_at_call 109; go_must (refine HLr.out.mono ?_; rintro e w2 ⟨rfl, rfl⟩))
        go_ret
        exact ⟨0, rfl, .inl rfl, HB.out⟩
      · have hz : ((M.length : Int) == 0) = false := by rw [beq_eq_false_iff_ne]; omega
        obtain ⟨bb, o, rfl⟩ := HAt.out.some_of (by intro h; have := congrArg List.length h; rw [intsV_length, List.length_nil] at this; omega)
        by_cases hneg : n < 0
        · obtain ⟨qn, hqn⟩ := Int.eq_ofNat_of_zero_le (by omega : 0 ≤ -(n + 1))
          have hw1 : IntKind.i64.wrap (n + 1) = n + 1 := by rw [IntKind.wrap_i64]; omega
          have hw2 : IntKind.i64.wrap (-(n + 1)) = (qn : Int) := by rw [IntKind.wrap_i64]; omega
          have hj : qn % M.length < M.length := Nat.mod_lt _ (by omega)
          have hx := HAt.out.get (intsV_get M (qn % M.length) hj)
          have HEl := Lib.hid (HM.out _ (List.getElem_mem hj))
          have hjm : (qn : Int) % (M.length : Int) = ((qn % M.length : Nat) : Int) := by push_cast; rfl
          have hjt : Int.tmod (qn : Int) (M.length : Int) = ((qn % M.length : Nat) : Int) := by rw [Int.tmod_eq_emod_of_nonneg (by omega)]; exact hjm
          generalize qn % M.length = j at *
          generalize M[j] = x at *
          go_wp2_with (go_at_call 109; go_must (refine HLr.out.mono ?_; rintro e w2 ⟨rfl, rfl⟩))
          go_ret
          exact ⟨x, rfl, .inr HEl.out, HB.out⟩
        · obtain ⟨qn, rfl⟩ := Int.eq_ofNat_of_zero_le (by omega : 0 ≤ n)
          have hj : qn % M.length < M.length := Nat.mod_lt _ (by omega)
          have hx := HAt.out.get (intsV_get M (qn % M.length) hj)
          have HEl := Lib.hid (HM.out _ (List.getElem_mem hj))
          have hjm : (qn : Int) % (M.length : Int) = ((qn % M.length : Nat) : Int) := by push_cast; rfl
          have hjt : Int.tmod (qn : Int) (M.length : Int) = ((qn % M.length : Nat) : Int) := by rw [Int.tmod_eq_emod_of_nonneg (by omega)]; exact hjm
          generalize qn % M.length = j at *
          generalize M[j] = x at *
          go_wp2_with (go_at_call 109; go_must (refine HLr.out.mono ?_; rintro e w2 ⟨rfl, rfl⟩))
          go_ret
          exact ⟨x, rfl, .inr HEl.out, HB.out⟩
end Go.Proofs.YtclflmjpdglgiaaGreat

/-
  Contracts: law 15's elem: what is done with an element, on both lists. No conditions beyond those that each lemma types.
-/
namespace Go.Proofs.YtclflmjpdglgiaaGreat
open Go.RowKit Mem

theorem insertL_lm {m : Int} {T : TreeD} (h : Lm m T) (l : List Int) (on : Bool) (sp : Int) (nm : ByteArray) (at' : List Pair) : Lm m (insertL T l on sp nm at').1 := by
  unfold insertL
  simp only
  split
  · exact putE_lm _ _ _ (mkF_lm _ h)
  · exact mkF_lm _ h
theorem turnR_lm {m : Int} (b : Int) : ∀ (r : List Int) (c : Nat) (S : TS), Lm m S.T → Lm m (turnR b r c S).1.T
  | [], _, _, h => h
  | x :: r, c, S, h => by
    rw [turnR]
    split
    · split
      · exact turnR_lm b r (c + 1) _ h
      · split
        · exact turnR_lm b r (c + 1) ⟨_, _, _, _, _⟩ (putE_lm _ _ _ (likeF_lm _ h))
        · exact likeF_lm _ h
    · exact turnR_lm b r (c + 1) _ h
theorem closeL_lm {m : Int} {T : TreeD} (h : Lm m T) (l ent : List Int) (f b keep : Int) : Lm m (closeL T l ent f b keep).1 := by
  unfold closeL
  split
  · exact putE_lm _ _ _ (moveE_lm _ _ (likeF_lm _ h))
  · exact likeF_lm _ h
theorem turnL_lm {m : Int} {T : TreeD} (h : Lm m T) (l ent : List Int) (on : Bool) (f b : Int) : Lm m (turnL T l ent on f b).1 := by
  have h1 := turnR_lm (m := m) b (betweenF l f b).reverse 1 ⟨T, l, ent, rfind ent f, b⟩ h
  unfold turnL
  simp only
  split
  · exact closeL_lm (putE_lm _ _ _ h1) _ _ _ _ _
  · exact h1
theorem adoptR_lm {m : Int} (on : Bool) (name : ByteArray) : ∀ (r t : Nat) (S : AS), Lm m S.T → Lm m (adoptR on name r t S).1.T
  | 0, _, _, h => h
  | r + 1, t, S, h => by
    rw [adoptR]
    split
    · exact h
    · split
      · exact h
      · split
        · exact h
        · split
          · exact h
          · split
            · exact adoptR_lm on name r (t + 1) ⟨_, _, _⟩ (turnL_lm h _ _ _ _ _)
            · exact turnL_lm h _ _ _ _ _
theorem adoptL_lm {m : Int} {S : AS} (h : Lm m S.T) (on : Bool) (name : ByteArray) : Lm m (adoptL on name S).1.T := by
  unfold adoptL
  split
  · exact h
  · exact adoptR_lm on name 8 0 S h
theorem restR_lm {m : Int} (on : Bool) : ∀ (r i : Nat) (S : AS), Lm m S.T → Lm m (restR on r i S).1.T
  | 0, _, _, h => h
  | r + 1, i, S, h => by
    rw [restR]
    split
    · exact restR_lm on r (i + 1) ⟨_, _, _⟩ (insertL_lm h _ _ _ _ _)
    · exact insertL_lm h _ _ _ _ _
theorem restL_lm {m : Int} {S : AS} (h : Lm m S.T) (on : Bool) : Lm m (restL on S).1.T := restR_lm on _ _ S h

/-- one step on: what holds behind it -/
structure Nxt (S U : AS) : Prop where
  fi : FI U.T U.l U.ent
  mor : Mor S.T U.T
  ent : U.ent.length ≤ S.ent.length + 9
  l : U.l.length ≤ S.l.length + S.ent.length + 9
  lm : ∀ m, Lm m S.T → Lm m U.T
theorem keepsw {w0 a b : World} {L L' : Nat → Prop} (h : Keeps (Own w0 L') a b) (hL : ∀ k, L k → L' k) : Keeps (Own w0 L) a b := h.mono fun _ _ hx => ⟨hx.1, fun hl => hx.2 (hL _ hl)⟩
theorem hand_not (ent : List Int) : ∀ (k : Nat) (h : k < ent.length), handF ent ≤ k → ent[k] ≠ -1 := fun k h hk => by
  have hs := rfind_spec ent (-1)
  exact hs.2.2.1 k h (by have := (handF_le ent).1; omega)
theorem FI.hand {T : TreeD} {l ent : List Int} (h : FI T l ent) : ∀ i (hi : i < ent.length), handF ent ≤ i → elemF T ent[i] = true := fun i hi hk =>
  (h.eel _ (List.getElem_mem hi)).resolve_left (hand_not ent i hi hk)
theorem pushF_len (T : TreeD) (ent : List Int) (n : Int) : (pushF T ent n).length ≤ ent.length + 1 := by
  unfold pushF
  rw [List.length_append, List.length_singleton]
  split
  · have := dropF_len ent (firstI (ixs T n ent (handF ent) ent.length)); omega
  · omega
theorem Nxt.same {S : AS} (h : FI S.T S.l S.ent) : Nxt S S := ⟨h, Mor.refl _, by omega, by omega, fun _ h => h⟩

section
variable {w0 w : World} {B C tb sb lb rb qb kb xb : Nat} {S : AS} {on : Bool} {L : Nat → Prop}

set_option maxRecDepth 100000 in
set_option maxHeartbeats 8000000 in
theorem elem_8 (h : DL w0 B C tb sb lb rb qb kb S on S on L w) (hx : WX xb tb sb lb kb w) (hLx : L xb) (hI : FI S.T S.l S.ent) (hle : S.ent.length < 1000000) (xn : Int) (hxn : -9223372036854775808 ≤ xn ∧ xn ≤ 9223372036854775807) (xs : ByteArray) (xp : Bool) (aa : Option Addr) (na ac : Nat) (kd : Int) (hkd : kd = 8) :
    Calls Tryz.prog 38 #[.pointer (some ⟨xb, 0, none⟩), .agg #[.int .i64 kd, .int .i64 xn, .string xs, .bool xp, .slice aa na ac]] w fun e w' =>
      ∃ S', e = .returned (.bool true) ∧ DL w0 B C tb sb lb rb qb kb S' on S' on L w' ∧ Nxt S S' ∧ Keeps (Own w0 L) w w' := by
  subst hkd
  have hbx := (Below.refl w.heap.size w).alloc (Nat.le_refl _) (.cells #[.int .i64 8, .int .i64 xn, .string xs, .bool xp, .slice aa na ac] 29)
  have hd1 := h.lay hbx
  have hk1 : Keeps (Own w0 L) w (w.alloc (.cells #[.int .i64 8, .int .i64 xn, .string xs, .bool xp, .slice aa na ac] 29)) := Keeps.ofBelow hbx
  have hB := heap_alloc_new w (.cells #[.int .i64 8, .int .i64 xn, .string xs, .bool xp, .slice aa na ac] 29)
  have hL1 : (fun k => L k ∨ (w.heap.size ≤ k ∧ k < (w.alloc (.cells #[.int .i64 8, .int .i64 xn, .string xs, .bool xp, .slice aa na ac] 29)).heap.size)) w.heap.size := .inr ⟨Nat.le_refl _, by simp⟩
  have hw1 := hx.below hbx
  have HI := Lib.hid hI
  go_enter Tryz.func38, Tryz.ntmps38
  go_wp2_with fail
  generalize w.alloc (.cells #[.int .i64 8, .int .i64 xn, .string xs, .bool xp, .slice aa na ac] 29) = w1 at *
  have r0 := cell_of_row _ _ 0 _ _ _ hB
  have r1 := cell_of_row _ _ 1 _ _ _ hB
  have r2 := cell_of_row _ _ 2 _ _ _ hB
  have r3 := cell_of_row _ _ 3 _ _ _ hB
  have r4 := cell_of_row _ _ 4 _ _ _ hB
  obtain ⟨L1, hL1e⟩ : ∃ L1 : Nat → Prop, L1 = fun k => L k ∨ (w.heap.size ≤ k ∧ k < w1.heap.size) := ⟨_, rfl⟩
  rw [← hL1e] at hd1
  have HLL := Lib.hid (show ∀ k, L k → L1 k by rw [hL1e]; exact fun k hk => .inl hk)
  have HL1 := Lib.hid (show L1 w.heap.size by rw [hL1e]; exact hL1)
  have HLX := Lib.hid (HLL.out xb hLx)
  have HK1 := Lib.hid hk1
  have HD1 := Lib.hid hd1
  have HW1 := Lib.hid hw1
  clear h hbx hd1 hk1 hB hL1 hL1e hx hw1 hLx hI
  have hpk := (show Calls Tryz.prog 70 #[.pointer (some ⟨xb, 0, none⟩), .int .i64 xn] w1 fun e w' => ∃ m, e = .returned (.int .i64 m) ∧ (m = 0 ∨ elemF S.T m = true) ∧ Below w1.heap.size w1 w' from by
    obtain ⟨ex, hl, _⟩ := HD1.out.ld
    exact pick_any w0 w1 C tb sb lb rb qb kb xb ex S.T S.l S.ent on hl HW1.out xn hxn)
  have HPK := Lib.hid hpk
  clear hpk
  go_wp2_with fail
  refine HPK.out.mono ?_
  rintro e w2 ⟨m, rfl, hm, hb2⟩
  have HM := Lib.hid hm
  have HD2 := Lib.hid (HD1.out.world hb2)
  have HW2 := Lib.hid (HW1.out.below hb2)
  have HK2 := Lib.hid (HK1.out.trans (Keeps.ofBelow hb2))
  have t0 := cell_later hb2 r0
  obtain ⟨y0, y1, y2, y3⟩ := HW2.out.cells
  clear hb2 hm HD1 HW1 HK1 r0 r1 r2 r3 r4
  by_cases hm0 : m = 0
  · subst hm0
    go_wp2_with fail
    go_ret
    exact ⟨S, rfl, HD2.out.less HLL.out, Nxt.same HI.out, HK2.out⟩
  have hm1 : (m == 0) = false := by simpa using hm0
  have hel := HM.out.resolve_left hm0
  have HEL := Lib.hid hel
  clear hm0 HM hel
  have hhas := (show Calls Tryz.prog 71 #[.pointer (some ⟨kb, 0, none⟩), .int .i64 m] w2 fun e w' => e = .returned (.bool (decide (0 ≤ rfind S.ent m))) ∧ w2 = w' from by
    obtain ⟨ex, hl, _⟩ := HD2.out.ld
    exact dHas_ld hl m)
  by_cases h0 : 0 ≤ rfind S.ent m
  · rw [decide_eq_true h0] at hhas
    have HH := Lib.hid hhas
    clear hhas h0
    go_wp2_with (go_at_call 71; go_must (refine HH.out.mono ?_; rintro e w3 ⟨rfl, rfl⟩))
    go_ret
    exact ⟨S, rfl, HD2.out.less HLL.out, Nxt.same HI.out, HK2.out⟩
  · rw [decide_eq_false h0] at hhas
    have HH := Lib.hid hhas
    have hne : ¬ m ∈ S.ent := fun hh => h0 (mem_rfind.2 hh)
    have HN : Hid (Nxt S ⟨S.T, S.l, pushF S.T S.ent m⟩) := Lib.hid ⟨HI.out.epush HEL.out hne, Mor.refl _, by have := pushF_len S.T S.ent m; show (pushF S.T S.ent m).length ≤ _; omega, by show S.l.length ≤ _; omega, fun _ h => h⟩
    clear hhas h0 hne
    go_wp2_with (go_at_call 71; go_must (refine HH.out.mono ?_; rintro e w3 ⟨rfl, rfl⟩))
    refine (HD2.out.callP (S' := ⟨S.T, S.l, pushF S.T S.ent m⟩) (on' := on) (fun ex _ hl => Push_li hl hle m)).mono ?_
    rintro e w4 ⟨rfl, h4, k4⟩
    have HD4 := Lib.hid h4
    have HK4 := Lib.hid (HK2.out.trans (keepsw k4 HLL.out))
    obtain ⟨z0, z1, z2, z3⟩ := (HW2.out.kept HLX.out k4).cells
    clear h4 k4 y0 y1 y2 y3
    go_wp2_with fail
    refine (HD4.out.callD (U' := ⟨S.T, S.l, pushF S.T S.ent m⟩) (un' := on) (fun ex _ hl => dPush_ld hl hle m HI.out.hand HEL.out)).mono ?_
    rintro e w5 ⟨rfl, h5, k5⟩
    have HD5 := Lib.hid h5
    have HK5 := Lib.hid (HK4.out.trans (keepsw k5 HLL.out))
    clear h5 k5
    go_wp2_with fail
    go_ret
    exact ⟨_, rfl, HD5.out.less HLL.out, HN.out, HK5.out⟩

set_option maxRecDepth 100000 in
set_option maxHeartbeats 8000000 in
theorem elem_9 (h : DL w0 B C tb sb lb rb qb kb S on S on L w) (hx : WX xb tb sb lb kb w) (hLx : L xb) (hI : FI S.T S.l S.ent) (xn : Int) (hxn : -9223372036854775808 ≤ xn ∧ xn ≤ 9223372036854775807) (xs : ByteArray) (xp : Bool) (aa : Option Addr) (na ac : Nat) (kd : Int) (hkd : kd = 9) :
    Calls Tryz.prog 38 #[.pointer (some ⟨xb, 0, none⟩), .agg #[.int .i64 kd, .int .i64 xn, .string xs, .bool xp, .slice aa na ac]] w fun e w' =>
      ∃ S', e = .returned (.bool true) ∧ DL w0 B C tb sb lb rb qb kb S' on S' on L w' ∧ Nxt S S' ∧ Keeps (Own w0 L) w w' := by
  subst hkd
  have hbx := (Below.refl w.heap.size w).alloc (Nat.le_refl _) (.cells #[.int .i64 9, .int .i64 xn, .string xs, .bool xp, .slice aa na ac] 29)
  have hd1 := h.lay hbx
  have hk1 : Keeps (Own w0 L) w (w.alloc (.cells #[.int .i64 9, .int .i64 xn, .string xs, .bool xp, .slice aa na ac] 29)) := Keeps.ofBelow hbx
  have hB := heap_alloc_new w (.cells #[.int .i64 9, .int .i64 xn, .string xs, .bool xp, .slice aa na ac] 29)
  have hL1 : (fun k => L k ∨ (w.heap.size ≤ k ∧ k < (w.alloc (.cells #[.int .i64 9, .int .i64 xn, .string xs, .bool xp, .slice aa na ac] 29)).heap.size)) w.heap.size := .inr ⟨Nat.le_refl _, by simp⟩
  have hw1 := hx.below hbx
  have HI := Lib.hid hI
  go_enter Tryz.func38, Tryz.ntmps38
  go_wp2_with fail
  generalize w.alloc (.cells #[.int .i64 9, .int .i64 xn, .string xs, .bool xp, .slice aa na ac] 29) = w1 at *
  have r0 := cell_of_row _ _ 0 _ _ _ hB
  have r1 := cell_of_row _ _ 1 _ _ _ hB
  have r2 := cell_of_row _ _ 2 _ _ _ hB
  have r3 := cell_of_row _ _ 3 _ _ _ hB
  have r4 := cell_of_row _ _ 4 _ _ _ hB
  obtain ⟨L1, hL1e⟩ : ∃ L1 : Nat → Prop, L1 = fun k => L k ∨ (w.heap.size ≤ k ∧ k < w1.heap.size) := ⟨_, rfl⟩
  rw [← hL1e] at hd1
  have HLL := Lib.hid (show ∀ k, L k → L1 k by rw [hL1e]; exact fun k hk => .inl hk)
  have HL1 := Lib.hid (show L1 w.heap.size by rw [hL1e]; exact hL1)
  have HLX := Lib.hid (HLL.out xb hLx)
  have HK1 := Lib.hid hk1
  have HD1 := Lib.hid hd1
  have HW1 := Lib.hid hw1
  clear h hbx hd1 hk1 hB hL1 hL1e hx hw1 hLx hI
  have hpk := (show Calls Tryz.prog 70 #[.pointer (some ⟨xb, 0, none⟩), .int .i64 xn] w1 fun e w' => ∃ m, e = .returned (.int .i64 m) ∧ (m = 0 ∨ elemF S.T m = true) ∧ Below w1.heap.size w1 w' from by
    obtain ⟨ex, hl, _⟩ := HD1.out.ld
    exact pick_any w0 w1 C tb sb lb rb qb kb xb ex S.T S.l S.ent on hl HW1.out xn hxn)
  have HPK := Lib.hid hpk
  clear hpk
  go_wp2_with fail
  refine HPK.out.mono ?_
  rintro e w2 ⟨m, rfl, hm, hb2⟩
  have HM := Lib.hid hm
  have HD2 := Lib.hid (HD1.out.world hb2)
  have HW2 := Lib.hid (HW1.out.below hb2)
  have HK2 := Lib.hid (HK1.out.trans (Keeps.ofBelow hb2))
  have t0 := cell_later hb2 r0
  obtain ⟨y0, y1, y2, y3⟩ := HW2.out.cells
  clear hb2 hm HD1 HW1 HK1 r0 r1 r2 r3 r4
  by_cases hm0 : m = 0
  · subst hm0
    go_wp2_with fail
    go_ret
    exact ⟨S, rfl, HD2.out.less HLL.out, Nxt.same HI.out, HK2.out⟩
  have hm1 : (m == 0) = false := by simpa using hm0
  have hel := HM.out.resolve_left hm0
  have HEL := Lib.hid hel
  clear hm0 HM hel
  have HN : Hid (Nxt S ⟨S.T, S.l, rmF S.ent m⟩) := Lib.hid ⟨HI.out.sub (List.Sublist.refl _) (rmF_sub _ _), Mor.refl _, by have := (rmF_sub S.ent m).length_le; show (rmF S.ent m).length ≤ _; omega, by show S.l.length ≤ _; omega, fun _ h => h⟩
  go_wp2_with fail
  refine (HD2.out.callP (S' := ⟨S.T, S.l, rmF S.ent m⟩) (on' := on) (fun ex _ hl => Remove_li hl m)).mono ?_
  rintro e w4 ⟨rfl, h4, k4⟩
  have HD4 := Lib.hid h4
  have HK4 := Lib.hid (HK2.out.trans (keepsw k4 HLL.out))
  obtain ⟨z0, z1, z2, z3⟩ := (HW2.out.kept HLX.out k4).cells
  clear h4 k4 y0 y1 y2 y3
  go_wp2_with fail
  refine (HD4.out.callD (U' := ⟨S.T, S.l, rmF S.ent m⟩) (un' := on) (fun ex _ hl => dRemove_ld hl m)).mono ?_
  rintro e w5 ⟨rfl, h5, k5⟩
  have HD5 := Lib.hid h5
  have HK5 := Lib.hid (HK4.out.trans (keepsw k5 HLL.out))
  clear h5 k5
  go_wp2_with fail
  go_ret
  exact ⟨_, rfl, HD5.out.less HLL.out, HN.out, HK5.out⟩

set_option maxRecDepth 100000 in
set_option maxHeartbeats 8000000 in
theorem elem_12 (h : DL w0 B C tb sb lb rb qb kb S on S on L w) (hx : WX xb tb sb lb kb w) (hLx : L xb) (hI : FI S.T S.l S.ent) (xn : Int) (hxn : -9223372036854775808 ≤ xn ∧ xn ≤ 9223372036854775807) (xs : ByteArray) (xp : Bool) (aa : Option Addr) (na ac : Nat) (kd : Int) (hkd : kd = 12) :
    Calls Tryz.prog 38 #[.pointer (some ⟨xb, 0, none⟩), .agg #[.int .i64 kd, .int .i64 xn, .string xs, .bool xp, .slice aa na ac]] w fun e w' =>
      ∃ S', e = .returned (.bool true) ∧ DL w0 B C tb sb lb rb qb kb S' on S' on L w' ∧ Nxt S S' ∧ Keeps (Own w0 L) w w' := by
  subst hkd
  have hbx := (Below.refl w.heap.size w).alloc (Nat.le_refl _) (.cells #[.int .i64 12, .int .i64 xn, .string xs, .bool xp, .slice aa na ac] 29)
  have hd1 := h.lay hbx
  have hk1 : Keeps (Own w0 L) w (w.alloc (.cells #[.int .i64 12, .int .i64 xn, .string xs, .bool xp, .slice aa na ac] 29)) := Keeps.ofBelow hbx
  have hB := heap_alloc_new w (.cells #[.int .i64 12, .int .i64 xn, .string xs, .bool xp, .slice aa na ac] 29)
  have hL1 : (fun k => L k ∨ (w.heap.size ≤ k ∧ k < (w.alloc (.cells #[.int .i64 12, .int .i64 xn, .string xs, .bool xp, .slice aa na ac] 29)).heap.size)) w.heap.size := .inr ⟨Nat.le_refl _, by simp⟩
  have hw1 := hx.below hbx
  have HI := Lib.hid hI
  go_enter Tryz.func38, Tryz.ntmps38
  go_wp2_with fail
  generalize w.alloc (.cells #[.int .i64 12, .int .i64 xn, .string xs, .bool xp, .slice aa na ac] 29) = w1 at *
  have r0 := cell_of_row _ _ 0 _ _ _ hB
  have r1 := cell_of_row _ _ 1 _ _ _ hB
  have r2 := cell_of_row _ _ 2 _ _ _ hB
  have r3 := cell_of_row _ _ 3 _ _ _ hB
  have r4 := cell_of_row _ _ 4 _ _ _ hB
  obtain ⟨L1, hL1e⟩ : ∃ L1 : Nat → Prop, L1 = fun k => L k ∨ (w.heap.size ≤ k ∧ k < w1.heap.size) := ⟨_, rfl⟩
  rw [← hL1e] at hd1
  have HLL := Lib.hid (show ∀ k, L k → L1 k by rw [hL1e]; exact fun k hk => .inl hk)
  have HL1 := Lib.hid (show L1 w.heap.size by rw [hL1e]; exact hL1)
  have HLX := Lib.hid (HLL.out xb hLx)
  have HK1 := Lib.hid hk1
  have HD1 := Lib.hid hd1
  have HW1 := Lib.hid hw1
  clear h hbx hd1 hk1 hB hL1 hL1e hx hw1 hLx hI
  have hpk := (show Calls Tryz.prog 70 #[.pointer (some ⟨xb, 0, none⟩), .int .i64 xn] w1 fun e w' => ∃ m, e = .returned (.int .i64 m) ∧ (m = 0 ∨ elemF S.T m = true) ∧ Below w1.heap.size w1 w' from by
    obtain ⟨ex, hl, _⟩ := HD1.out.ld
    exact pick_any w0 w1 C tb sb lb rb qb kb xb ex S.T S.l S.ent on hl HW1.out xn hxn)
  have HPK := Lib.hid hpk
  clear hpk
  go_wp2_with fail
  refine HPK.out.mono ?_
  rintro e w2 ⟨m, rfl, hm, hb2⟩
  have HM := Lib.hid hm
  have HD2 := Lib.hid (HD1.out.world hb2)
  have HW2 := Lib.hid (HW1.out.below hb2)
  have HK2 := Lib.hid (HK1.out.trans (Keeps.ofBelow hb2))
  have t0 := cell_later hb2 r0
  obtain ⟨y0, y1, y2, y3⟩ := HW2.out.cells
  clear hb2 hm HD1 HW1 HK1 r0 r1 r2 r3 r4
  by_cases hm0 : m = 0
  · subst hm0
    go_wp2_with fail
    go_ret
    exact ⟨S, rfl, HD2.out.less HLL.out, Nxt.same HI.out, HK2.out⟩
  have hm1 : (m == 0) = false := by simpa using hm0
  have hel := HM.out.resolve_left hm0
  have HEL := Lib.hid hel
  clear hm0 HM hel
  have hp1 := (show Calls Tryz.prog 42 #[.pointer (some ⟨lb, 0, none⟩), .int .i64 m] w2 fun e w' => e = .returned (.tuple #[.int .i64 (placeQ S.T S.l on m).1, .int .i64 (placeQ S.T S.l on m).2]) ∧ Below w2.heap.size w2 w' from by
    obtain ⟨ex, hl, _⟩ := HD2.out.li
    exact Place_li hl m)
  have hp2 := (show ∀ u, Below w2.heap.size w2 u → Calls Tryz.prog 58 #[.pointer (some ⟨kb, 0, none⟩), .int .i64 m] u fun e w' => e = .returned (.tuple #[.int .i64 (placeQ S.T S.l on m).1, .int .i64 (placeQ S.T S.l on m).2]) ∧ Below u.heap.size u w' from fun u hu => by
    obtain ⟨ex, hl, _⟩ := (HD2.out.world hu).ld
    exact dPlace_ld hl m)
  have HP1 := Lib.hid hp1
  have HP2 := Lib.hid hp2
  clear hp1 hp2
  generalize placeQ S.T S.l on m = pl at *
  obtain ⟨pa, pb⟩ := pl
  go_wp2_with fail
  refine HP1.out.mono ?_
  rintro e w4 ⟨rfl, hb4⟩
  have HB4 := Lib.hid hb4
  obtain ⟨z0, z1, z2, z3⟩ := (HW2.out.below hb4).cells
  clear hb4 y0 y1 y2 y3
  go_wp2_with fail
  refine (HP2.out _ HB4.out).mono ?_
  rintro e w5 ⟨rfl, hb5⟩
  have HB5 := Lib.hid (belowCall HB4.out hb5)
  clear hb5
  go_wp2_with fail
  go_ret
  exact ⟨S, by simp, (HD2.out.world HB5.out).less HLL.out, Nxt.same HI.out, HK2.out.trans (Keeps.ofBelow HB5.out)⟩

set_option maxRecDepth 100000 in
set_option maxHeartbeats 8000000 in
theorem elem_no (h : DL w0 B C tb sb lb rb qb kb S on S on L w) (hx : WX xb tb sb lb kb w) (hLx : L xb) (hI : FI S.T S.l S.ent) (xn : Int) (hxn : -9223372036854775808 ≤ xn ∧ xn ≤ 9223372036854775807) (xs : ByteArray) (xp : Bool) (aa : Option Addr) (na ac : Nat) (kd : Int) (h8 : (kd == 8) = false) (h9 : (kd == 9) = false) (h10 : (kd == 10) = false) (h12 : (kd == 12) = false) :
    Calls Tryz.prog 38 #[.pointer (some ⟨xb, 0, none⟩), .agg #[.int .i64 kd, .int .i64 xn, .string xs, .bool xp, .slice aa na ac]] w fun e w' =>
      ∃ S', e = .returned (.bool true) ∧ DL w0 B C tb sb lb rb qb kb S' on S' on L w' ∧ Nxt S S' ∧ Keeps (Own w0 L) w w' := by
  have hbx := (Below.refl w.heap.size w).alloc (Nat.le_refl _) (.cells #[.int .i64 kd, .int .i64 xn, .string xs, .bool xp, .slice aa na ac] 29)
  have hd1 := h.lay hbx
  have hk1 : Keeps (Own w0 L) w (w.alloc (.cells #[.int .i64 kd, .int .i64 xn, .string xs, .bool xp, .slice aa na ac] 29)) := Keeps.ofBelow hbx
  have hB := heap_alloc_new w (.cells #[.int .i64 kd, .int .i64 xn, .string xs, .bool xp, .slice aa na ac] 29)
  have hL1 : (fun k => L k ∨ (w.heap.size ≤ k ∧ k < (w.alloc (.cells #[.int .i64 kd, .int .i64 xn, .string xs, .bool xp, .slice aa na ac] 29)).heap.size)) w.heap.size := .inr ⟨Nat.le_refl _, by simp⟩
  have hw1 := hx.below hbx
  have HI := Lib.hid hI
  go_enter Tryz.func38, Tryz.ntmps38
  go_wp2_with fail
  generalize w.alloc (.cells #[.int .i64 kd, .int .i64 xn, .string xs, .bool xp, .slice aa na ac] 29) = w1 at *
  have r0 := cell_of_row _ _ 0 _ _ _ hB
  have r1 := cell_of_row _ _ 1 _ _ _ hB
  have r2 := cell_of_row _ _ 2 _ _ _ hB
  have r3 := cell_of_row _ _ 3 _ _ _ hB
  have r4 := cell_of_row _ _ 4 _ _ _ hB
  obtain ⟨L1, hL1e⟩ : ∃ L1 : Nat → Prop, L1 = fun k => L k ∨ (w.heap.size ≤ k ∧ k < w1.heap.size) := ⟨_, rfl⟩
  rw [← hL1e] at hd1
  have HLL := Lib.hid (show ∀ k, L k → L1 k by rw [hL1e]; exact fun k hk => .inl hk)
  have HL1 := Lib.hid (show L1 w.heap.size by rw [hL1e]; exact hL1)
  have HLX := Lib.hid (HLL.out xb hLx)
  have HK1 := Lib.hid hk1
  have HD1 := Lib.hid hd1
  have HW1 := Lib.hid hw1
  clear h hbx hd1 hk1 hB hL1 hL1e hx hw1 hLx hI
  have hpk := (show Calls Tryz.prog 70 #[.pointer (some ⟨xb, 0, none⟩), .int .i64 xn] w1 fun e w' => ∃ m, e = .returned (.int .i64 m) ∧ (m = 0 ∨ elemF S.T m = true) ∧ Below w1.heap.size w1 w' from by
    obtain ⟨ex, hl, _⟩ := HD1.out.ld
    exact pick_any w0 w1 C tb sb lb rb qb kb xb ex S.T S.l S.ent on hl HW1.out xn hxn)
  have HPK := Lib.hid hpk
  clear hpk
  go_wp2_with fail
  refine HPK.out.mono ?_
  rintro e w2 ⟨m, rfl, hm, hb2⟩
  have HM := Lib.hid hm
  have HD2 := Lib.hid (HD1.out.world hb2)
  have HW2 := Lib.hid (HW1.out.below hb2)
  have HK2 := Lib.hid (HK1.out.trans (Keeps.ofBelow hb2))
  have t0 := cell_later hb2 r0
  obtain ⟨y0, y1, y2, y3⟩ := HW2.out.cells
  clear hb2 hm HD1 HW1 HK1 r0 r1 r2 r3 r4
  by_cases hm0 : m = 0
  · subst hm0
    go_wp2_with fail
    go_ret
    exact ⟨S, rfl, HD2.out.less HLL.out, Nxt.same HI.out, HK2.out⟩
  have hm1 : (m == 0) = false := by simpa using hm0
  have hel := HM.out.resolve_left hm0
  have HEL := Lib.hid hel
  clear hm0 HM hel
  go_wp2_with fail
  go_ret
  exact ⟨S, rfl, HD2.out.less HLL.out, Nxt.same HI.out, HK2.out⟩

set_option maxRecDepth 100000 in
set_option maxHeartbeats 8000000 in
theorem elem_10 (h : DL w0 B C tb sb lb rb qb kb S on S on L w) (hx : WX xb tb sb lb kb w) (hLx : L xb) (hI : FI S.T S.l S.ent) (xn : Int) (hxn : -9223372036854775808 ≤ xn ∧ xn ≤ 9223372036854775807) (xs : ByteArray) (xp : Bool) (aa : Option Addr) (na ac : Nat) (kd : Int) (hkd : kd = 10) :
    Calls Tryz.prog 38 #[.pointer (some ⟨xb, 0, none⟩), .agg #[.int .i64 kd, .int .i64 xn, .string xs, .bool xp, .slice aa na ac]] w fun e w' =>
      ∃ S', e = .returned (.bool true) ∧ DL w0 B C tb sb lb rb qb kb S' on S' on L w' ∧ Nxt S S' ∧ Keeps (Own w0 L) w w' := by
  subst hkd
  have hbx := (Below.refl w.heap.size w).alloc (Nat.le_refl _) (.cells #[.int .i64 10, .int .i64 xn, .string xs, .bool xp, .slice aa na ac] 29)
  have hd1 := h.lay hbx
  have hk1 : Keeps (Own w0 L) w (w.alloc (.cells #[.int .i64 10, .int .i64 xn, .string xs, .bool xp, .slice aa na ac] 29)) := Keeps.ofBelow hbx
  have hB := heap_alloc_new w (.cells #[.int .i64 10, .int .i64 xn, .string xs, .bool xp, .slice aa na ac] 29)
  have hL1 : (fun k => L k ∨ (w.heap.size ≤ k ∧ k < (w.alloc (.cells #[.int .i64 10, .int .i64 xn, .string xs, .bool xp, .slice aa na ac] 29)).heap.size)) w.heap.size := .inr ⟨Nat.le_refl _, by simp⟩
  have hw1 := hx.below hbx
  have HI := Lib.hid hI
  go_enter Tryz.func38, Tryz.ntmps38
  go_wp2_with fail
  generalize w.alloc (.cells #[.int .i64 10, .int .i64 xn, .string xs, .bool xp, .slice aa na ac] 29) = w1 at *
  have r0 := cell_of_row _ _ 0 _ _ _ hB
  have r1 := cell_of_row _ _ 1 _ _ _ hB
  have r2 := cell_of_row _ _ 2 _ _ _ hB
  have r3 := cell_of_row _ _ 3 _ _ _ hB
  have r4 := cell_of_row _ _ 4 _ _ _ hB
  obtain ⟨L1, hL1e⟩ : ∃ L1 : Nat → Prop, L1 = fun k => L k ∨ (w.heap.size ≤ k ∧ k < w1.heap.size) := ⟨_, rfl⟩
  rw [← hL1e] at hd1
  have HLL := Lib.hid (show ∀ k, L k → L1 k by rw [hL1e]; exact fun k hk => .inl hk)
  have HL1 := Lib.hid (show L1 w.heap.size by rw [hL1e]; exact hL1)
  have HLX := Lib.hid (HLL.out xb hLx)
  have HK1 := Lib.hid hk1
  have HD1 := Lib.hid hd1
  have HW1 := Lib.hid hw1
  clear h hbx hd1 hk1 hB hL1 hL1e hx hw1 hLx hI
  have hpk := (show Calls Tryz.prog 70 #[.pointer (some ⟨xb, 0, none⟩), .int .i64 xn] w1 fun e w' => ∃ m, e = .returned (.int .i64 m) ∧ (m = 0 ∨ elemF S.T m = true) ∧ Below w1.heap.size w1 w' from by
    obtain ⟨ex, hl, _⟩ := HD1.out.ld
    exact pick_any w0 w1 C tb sb lb rb qb kb xb ex S.T S.l S.ent on hl HW1.out xn hxn)
  have HPK := Lib.hid hpk
  clear hpk
  go_wp2_with fail
  refine HPK.out.mono ?_
  rintro e w2 ⟨m, rfl, hm, hb2⟩
  have HM := Lib.hid hm
  have HD2 := Lib.hid (HD1.out.world hb2)
  have HW2 := Lib.hid (HW1.out.below hb2)
  have HK2 := Lib.hid (HK1.out.trans (Keeps.ofBelow hb2))
  have t0 := cell_later hb2 r0
  obtain ⟨y0, y1, y2, y3⟩ := HW2.out.cells
  clear hb2 hm HD1 HW1 HK1 r0 r1 r2 r3 r4
  by_cases hm0 : m = 0
  · subst hm0
    go_wp2_with fail
    go_ret
    exact ⟨S, rfl, HD2.out.less HLL.out, Nxt.same HI.out, HK2.out⟩
  have hm1 : (m == 0) = false := by simpa using hm0
  have hel := HM.out.resolve_left hm0
  have HEL := Lib.hid hel
  clear hm0 HM hel
  have HN : Hid (Nxt S ⟨(takeE S.T m).1, S.l, S.ent⟩) := Lib.hid ⟨HI.out.grow (takeE_mor _ _), takeE_mor _ _, by show S.ent.length ≤ _; omega, by show S.l.length ≤ _; omega, fun _ h => takeE_lm _ h⟩
  have HP : Hid (∀ {U : AS} {un : Bool} u, DL w0 B C tb sb lb rb qb kb S on U un L1 u → Calls Tryz.prog 72 #[.pointer (some ⟨tb, 0, none⟩), .int .i64 m] u fun e w' => e = .returned (.int .i64 (takeE S.T m).2) ∧ DL w0 B C tb sb lb rb qb kb ⟨(takeE S.T m).1, S.l, S.ent⟩ on U un L1 w' ∧ Keeps (Own w0 L1) u w') := Lib.hid (fun u hu => hu.callP (Q := fun e _ => e = .returned (.int .i64 (takeE S.T m).2)) (S' := ⟨(takeE S.T m).1, S.l, S.ent⟩) (on' := on) (fun ex _ hl => Take_li hl m))
  have HQ : Hid (∀ {U : AS} {un : Bool} u, DL w0 B C tb sb lb rb qb kb U un S on L1 u → Calls Tryz.prog 73 #[.pointer (some ⟨rb, 0, none⟩), .int .i64 m] u fun e w' => e = .returned (.int .i64 (takeE S.T m).2) ∧ DL w0 B C tb sb lb rb qb kb U un ⟨(takeE S.T m).1, S.l, S.ent⟩ on L1 w' ∧ Keeps (Own w0 L1) u w') := Lib.hid (fun u hu => hu.callD (Q := fun e _ => e = .returned (.int .i64 (takeE S.T m).2)) (U' := ⟨(takeE S.T m).1, S.l, S.ent⟩) (un' := on) (fun ex _ hl => dTake_ld hl m))
  generalize (takeE S.T m).2 = er at *
  obtain ⟨c0, c1⟩ := HD2.out.cells
  go_wp2_with fail
  have q0 : w2.drew.cell? ⟨xb, 0, none⟩ = some (.pointer (some ⟨tb, 0, none⟩)) := y0
  have q3 : w2.drew.cell? ⟨xb, 3, none⟩ = some (.pointer (some ⟨kb, 0, none⟩)) := y3
  have qc : w2.drew.cell? ⟨kb, 0, none⟩ = some (.pointer (some ⟨rb, 0, none⟩)) := c0
  have E1 := Lib.hid (HD2.out.world ((Below.refl _ w2).drew))
  go_region_held3 (fun u => u.cell? ⟨xb, 0, none⟩ = some (.pointer (some ⟨tb, 0, none⟩)) ∧ u.cell? ⟨xb, 3, none⟩ = some (.pointer (some ⟨kb, 0, none⟩)) ∧ u.cell? ⟨kb, 0, none⟩ = some (.pointer (some ⟨rb, 0, none⟩)))
    (first | exact ⟨q0, q3, qc⟩ | exact ⟨u0, u3, uc⟩ | exact ⟨v0, v3, vc⟩)
    (first
    | (go_at_call 72; refine (HP.out _ E2.out).mono ?_; rintro e w4 ⟨rfl, h4, k4⟩; have v0 := own_cell k4 HLX.out u0; have v3 := own_cell k4 HLX.out u3; have vc := h4.cells.1; have E3 := Lib.hid h4; have K3 := Lib.hid k4; clear h4 k4)
    | (go_at_call 72; refine (HP.out _ E1.out).mono ?_; rintro e w3 ⟨rfl, h3, k3⟩; have u0 := own_cell k3 HLX.out q0; have u3 := own_cell k3 HLX.out q3; have uc := h3.cells.1; have E2 := Lib.hid h3; have K2 := Lib.hid k3; clear h3 k3)
    | (go_at_call 73; refine (HQ.out _ E2.out).mono ?_; rintro e w4 ⟨rfl, h4, k4⟩; have v0 := own_cell k4 HLX.out u0; have v3 := own_cell k4 HLX.out u3; have vc := h4.cells.1; have E3 := Lib.hid h4; have K3 := Lib.hid k4; clear h4 k4)
    | (go_at_call 73; refine (HQ.out _ E1.out).mono ?_; rintro e w3 ⟨rfl, h3, k3⟩; have u0 := own_cell k3 HLX.out q0; have u3 := own_cell k3 HLX.out q3; have uc := h3.cells.1; have E2 := Lib.hid h3; have K2 := Lib.hid k3; clear h3 k3))
  all_goals
    go_wp2_with fail
    go_ret
    exact ⟨_, rfl, E3.out.less HLL.out, HN.out, HK2.out.trans (keepsw ((Keeps.refl (Own w0 L1) w2).drew.trans (K2.out.trans K3.out)) HLL.out)⟩
end
end Go.Proofs.YtclflmjpdglgiaaGreat
