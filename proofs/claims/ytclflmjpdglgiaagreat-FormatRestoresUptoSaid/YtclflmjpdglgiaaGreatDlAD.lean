import Derived.Test.YtclflmjpdglgiaaGreatRstFI
import Derived.Test.YtclflmjpdglgiaaGreatFmE
/-
  The document's list (colanderref15.List) in memory, over its tree and open elements; its small calls. No conditions beyond those that each lemma types.
-/
namespace Go.Proofs.YtclflmjpdglgiaaGreat
open Go.RowKit Mem

/-- the document's list behind the pointer to block lb, over the tree behind tb and the open elements behind sb; its entries' row in block ge -/
def LdO (w : World) (lb tb sb : Nat) (ge : Option Nat) (l : List Int) (on : Bool) : Prop :=
  ∃ v, w.heap[lb]? = some (.cells #[.pointer (some ⟨tb, 0, none⟩), .pointer (some ⟨sb, 0, none⟩), v, .bool on] 58 (0, 0)) ∧ OwnI w v ge l ∧ ge ≠ some lb

section
variable {w w' : World} {lb tb sb : Nat} {ge : Option Nat} {l : List Int} {on : Bool}
theorem LdO.lt (h : LdO w lb tb sb ge l on) : ∀ k, SB lb ge k → k < w.heap.size := by
  obtain ⟨v, h1, h2, _⟩ := h
  rintro k (rfl | hk)
  · exact row_lt h1
  · exact h2.lt k hk
theorem LdO.kept {F : Nat → Prop} (h : LdO w lb tb sb ge l on) (hk : Keeps F w w') (hF : ∀ k, SB lb ge k → ¬ F k) : LdO w' lb tb sb ge l on := by
  have hlt := h.lt
  obtain ⟨v, h1, h2, h3⟩ := h
  exact ⟨v, (hk.block lb (hlt lb (.inl rfl)) (hF lb (.inl rfl))).trans h1, h2.kept fun k hk' => hk.block k (hlt k (.inr hk')) (hF k (.inr hk')), h3⟩
theorem LdO.below (h : LdO w lb tb sb ge l on) (hb : Below w.heap.size w w') : LdO w' lb tb sb ge l on := h.kept (F := fun _ => False) (Keeps.ofBelow hb) fun _ _ h => h
theorem LdO.cells (h : LdO w lb tb sb ge l on) : ∃ a c, w.cell? ⟨lb, 0, none⟩ = some (.pointer (some ⟨tb, 0, none⟩)) ∧ w.cell? ⟨lb, 1, none⟩ = some (.pointer (some ⟨sb, 0, none⟩)) ∧ w.cell? ⟨lb, 2, none⟩ = some (.slice a l.length c) ∧ w.cell? ⟨lb, 3, none⟩ = some (.bool on) ∧
    At w a (intsV l) ∧ OwnI w (.slice a l.length c) ge l ∧ w.frozen? ⟨lb, 2, none⟩ = false ∧ w.frozen? ⟨lb, 3, none⟩ = false ∧
    w.heap[lb]? = some (.cells #[.pointer (some ⟨tb, 0, none⟩), .pointer (some ⟨sb, 0, none⟩), .slice a l.length c, .bool on] 58 (0, 0)) ∧ (a = none → c = 0) ∧ ge ≠ some lb := by
  obtain ⟨v, h1, h2, h3⟩ := h
  obtain ⟨a, c, rfl, hat, hn⟩ := own_slice h2.1
  have hr : Row w lb [.pointer (some ⟨tb, 0, none⟩), .pointer (some ⟨sb, 0, none⟩), .slice a l.length c, .bool on] := ⟨_, _, _, _, h1, rfl, .inr rfl⟩
  exact ⟨a, c, hr.cell (j := 0) rfl, hr.cell (j := 1) rfl, hr.cell (j := 2) rfl, hr.cell (j := 3) rfl, hat, h2, hr.frozen (j := 2) (by simp), hr.frozen (j := 3) (by simp), h1, hn, h3⟩
end

section
variable {w0 w w' : World} {B B' rb sb : Nat} {ex : Nat → Prop} {T T' : TreeD} {l l' : List Int}
theorem RSI.wf (h : RSI w0 B rb sb ex T l w) : WF T := by
  obtain ⟨_, _, _, _, h, _⟩ := h
  exact h.wf
theorem RSI.len (h : RSI w0 B rb sb ex T l w) : T.nodes.length ≤ 1000000 := by
  obtain ⟨_, _, _, _, h, _⟩ := h
  exact h.len
theorem RSI.more (h : RSI w0 B rb sb ex T l w) (hB : B ≤ B') : RSI w0 B' rb sb ex T l w := by
  obtain ⟨gn, gk, gs, far, h, h2⟩ := h
  exact ⟨gn, gk, gs, far, ⟨h.tree, h.wf, h.below, h.own, h.exf, h.len, h.most, h.att, fun d hd => Nat.le_trans (h.txt d hd) hB⟩, h2⟩
/-- a call on the tree alone -/
theorem RSI.tree_call {P : Program} {f : FuncId} {args : Array Value} {Q : Ending → World → Prop} (h : RSI w0 B rb sb ex T l w)
    (hc : ∀ ex', RI w0 B rb ex' T w → Calls P f args w fun e w' => Q e w' ∧ RI w0 B' rb ex' T' w' ∧ Keeps (Own w0 ex') w w') :
    Calls P f args w fun e w' => Q e w' ∧ RSI w0 B' rb sb ex T' l w' ∧ Keeps (Own w0 ex) w w' := by
  obtain ⟨gn, gk, gs, far, h, hs, h3, h4⟩ := h
  have hr : RI w0 B rb (fun k => ex k ∨ SB sb gs k) T w := ⟨gn, gk, far, h.tree, h.wf, h.below, h.own, fun k hk => hk.elim (h.exf k) fun hk => (h3 k hk).1, h.len, h.most, h.att, h.txt⟩
  refine (hc _ hr).mono ?_
  rintro e w' ⟨hq, ⟨gn', gk', far', h'⟩, hk⟩
  exact ⟨hq, ⟨gn', gk', gs, far', ⟨h'.tree, h'.wf, h'.below, h'.own, fun k hk => h'.exf k (.inl hk), h'.len, h'.most, h'.att, h'.txt⟩, hs.kept hk fun k hk' hx => hx.2 (.inr hk'), fun k hk' => ⟨h'.exf k (.inr hk'), (h3 k hk').2⟩, h4⟩, hk.mono fun k _ hx => ⟨hx.1, fun hy => hx.2 (.inl hy)⟩⟩
end

/-- tree, open elements, list; ex: blocks of other things -/
def LD (w0 : World) (B rb sb lb : Nat) (ex : Nat → Prop) (T : TreeD) (l ent : List Int) (on : Bool) (w : World) : Prop :=
  ∃ ge, LdO w lb rb sb ge ent on ∧ RSI w0 B rb sb (fun k => ex k ∨ SB lb ge k) T l w ∧ (∀ k, SB lb ge k → w0.heap.size ≤ k ∧ ¬ ex k) ∧ ent.length ≤ 1000000

section
variable {w0 w w' : World} {B B' rb sb lb : Nat} {ex : Nat → Prop} {T T' : TreeD} {l l' ent ent' : List Int} {on on' : Bool}
theorem LD.wf (h : LD w0 B rb sb lb ex T l ent on w) : WF T := by
  obtain ⟨ge, h1, h2, h3⟩ := h
  exact h2.wf
theorem LD.len (h : LD w0 B rb sb lb ex T l ent on w) : T.nodes.length ≤ 1000000 := by
  obtain ⟨ge, h1, h2, h3⟩ := h
  exact h2.len
theorem LD.below (h : LD w0 B rb sb lb ex T l ent on w) : Below w0.heap.size w0 w := by
  obtain ⟨ge, h1, h2, h3⟩ := h
  exact h2.below
theorem LD.short (h : LD w0 B rb sb lb ex T l ent on w) : l.length ≤ 1000000 ∧ ent.length ≤ 1000000 := by
  obtain ⟨ge, h1, h2, h3, h4⟩ := h
  exact ⟨h2.short, h4⟩
theorem LD.more (h : LD w0 B rb sb lb ex T l ent on w) (hB : B ≤ B') : LD w0 B' rb sb lb ex T l ent on w := by
  obtain ⟨ge, h1, h2, h3⟩ := h
  exact ⟨ge, h1, h2.more hB, h3⟩
theorem LD.world (h : LD w0 B rb sb lb ex T l ent on w) (hb : Below w.heap.size w w') : LD w0 B rb sb lb ex T l ent on w' := by
  obtain ⟨ge, h1, h2, h3⟩ := h
  exact ⟨ge, h1.below hb, h2.world hb, h3⟩
theorem LD.exlt (h : LD w0 B rb sb lb ex T l ent on w) : ∀ k, ex k → k < w.heap.size := by
  obtain ⟨ge, h1, h2, h3⟩ := h
  exact fun k hk => h2.exlt k (.inl hk)
/-- a call on tree or open elements -/
theorem LD.si_step {ge : Option Nat} (h1 : LdO w lb rb sb ge ent on) (h3 : ∀ k, SB lb ge k → w0.heap.size ≤ k ∧ ¬ ex k) (h4 : ent.length ≤ 1000000) (hs : RSI w0 B' rb sb (fun k => ex k ∨ SB lb ge k) T' l' w') (hk : Keeps (Own w0 fun k => ex k ∨ SB lb ge k) w w') :
    LD w0 B' rb sb lb ex T' l' ent on w' ∧ Keeps (Own w0 ex) w w' :=
  ⟨⟨ge, h1.kept hk (fun _ hk' h => h.2 (.inr hk')), hs, h3, h4⟩, hk.mono fun _ _ h => ⟨h.1, fun hx => h.2 (.inl hx)⟩⟩
/-- a call on the list itself -/
theorem LD.lst_step {ge ge' : Option Nat} (h1 : RSI w0 B rb sb (fun k => ex k ∨ SB lb ge k) T l w) (h3 : ∀ k, SB lb ge k → w0.heap.size ≤ k ∧ ¬ ex k) (h4 : ent'.length ≤ 1000000) (hl : LdO w' lb rb sb ge' ent' on') (hk : Keeps (SB lb ge) w w') (hg : ∀ k, ge' = some k → ge = some k ∨ w.heap.size ≤ k) :
    LD w0 B rb sb lb ex T l ent' on' w' ∧ Keeps (Own w0 ex) w w' := by
  have hlt := hl.lt
  refine ⟨⟨ge', hl, h1.foreign hk (fun k _ hk' => ⟨.inr hk', (h3 k hk').1⟩) (fun k hk' => ?_), fun k hk' => ?_, h4⟩, hk.mono fun k _ hk' => h3 k hk'⟩
  · rcases hk' with hk' | hk' | hk'
    · exact ⟨.inl (.inl hk'), Nat.lt_of_lt_of_le (h1.exlt k (.inl hk')) hk.size⟩
    · exact ⟨.inl (.inr (.inl hk')), hlt k (.inl hk')⟩
    · exact ⟨(hg k hk').imp (fun e => .inr (.inr e)) id, hlt k (.inr hk')⟩
  · rcases hk' with e | e
    · exact h3 k (.inl e)
    · rcases hg k e with e' | e'
      · exact h3 k (.inr e')
      · have := h1.below.size
        refine ⟨by omega, fun hx => ?_⟩
        have := h1.exlt k (.inl hx)
        omega
/-- a call on other things -/
theorem LD.foreign {ex' : Nat → Prop} (h : LD w0 B rb sb lb ex T l ent on w) {F : Nat → Prop} (hk : Keeps F w w') (hF : ∀ k, F k → ex k ∧ w0.heap.size ≤ k) (he : ∀ k, ex' k → (ex k ∨ w.heap.size ≤ k) ∧ k < w'.heap.size) : LD w0 B rb sb lb ex' T l ent on w' := by
  obtain ⟨ge, h1, h2, h3, h4⟩ := h
  have hlt := h1.lt
  have hs := hk.size
  refine ⟨ge, h1.kept hk fun k hk' hx => (h3 k hk').2 (hF k hx).1, h2.foreign hk (fun k _ hk' => ⟨.inl (hF k hk').1, (hF k hk').2⟩) (fun k hk' => ?_), fun k hk' => ⟨(h3 k hk').1, fun hx => ?_⟩, h4⟩
  · rcases hk' with hk' | hk'
    · exact ⟨(he k hk').1.imp .inl id, (he k hk').2⟩
    · exact ⟨.inl (.inr hk'), Nat.lt_of_lt_of_le (hlt k hk') hs⟩
  · rcases (he k hx).1 with e | e
    · exact (h3 k hk').2 e
    · have := hlt k hk'; omega
theorem LD.cells (h : LD w0 B rb sb lb ex T l ent on w) : ∃ a c, w.cell? ⟨lb, 0, none⟩ = some (.pointer (some ⟨rb, 0, none⟩)) ∧ w.cell? ⟨lb, 1, none⟩ = some (.pointer (some ⟨sb, 0, none⟩)) ∧ w.cell? ⟨lb, 2, none⟩ = some (.slice a ent.length c) ∧ w.cell? ⟨lb, 3, none⟩ = some (.bool on) ∧ At w a (intsV ent) ∧ c ≤ maxLen ∧ ent.length ≤ c := by
  obtain ⟨ge, h1, h2, h3⟩ := h
  obtain ⟨a, c, c0, c1, c2, c3, hA, ho, _⟩ := h1.cells
  obtain ⟨_, _, he, k1, k2, _⟩ := own_at ho.1
  injection he with _ _ e3
  subst e3
  exact ⟨a, c, c0, c1, c2, c3, hA, k2, k1⟩
/-- a call on tree or open elements -/
theorem LD.call {P : Program} {f : FuncId} {args : Array Value} {Q : Ending → World → Prop} (h : LD w0 B rb sb lb ex T l ent on w)
    (hc : ∀ ex', RSI w0 B rb sb ex' T l w → Calls P f args w fun e w' => Q e w' ∧ RSI w0 B' rb sb ex' T' l' w' ∧ Keeps (Own w0 ex') w w') :
    Calls P f args w fun e w' => Q e w' ∧ LD w0 B' rb sb lb ex T' l' ent on w' ∧ Keeps (Own w0 ex) w w' := by
  obtain ⟨ge, h1, h2, h3, h4⟩ := h
  exact (hc _ h2).mono fun e w' ⟨hq, hs, hk⟩ => ⟨hq, LD.si_step h1 h3 h4 hs hk⟩
theorem LD.rsi (h : LD w0 B rb sb lb ex T l ent on w) : ∃ ex', RSI w0 B rb sb ex' T l w := by
  obtain ⟨ge, h1, h2, h3⟩ := h
  exact ⟨_, h2⟩
theorem LD.lst (h : LD w0 B rb sb lb ex T l ent on w) : ∃ ge, LdO w lb rb sb ge ent on := by
  obtain ⟨ge, h1, _⟩ := h
  exact ⟨ge, h1⟩
theorem dFind_ld (h : LD w0 B rb sb lb ex T l ent on w) (n : Int) : Calls Tryz.prog 63 #[.pointer (some ⟨sb, 0, none⟩), .int .i64 n] w fun e w' => e = .returned (.int .i64 (rfind l n)) ∧ w = w' := by
  obtain ⟨_, h⟩ := h.rsi
  exact Find_rs h n
theorem dTop_ld (h : LD w0 B rb sb lb ex T l ent on w) : Calls Tryz.prog 60 #[.pointer (some ⟨sb, 0, none⟩)] w fun e w' => e = .returned (.int .i64 (l.getLast?.getD 0)) ∧ ∃ q, w' = w.drewN q := by
  obtain ⟨_, h⟩ := h.rsi
  exact Top_rs h
theorem dnamed_ld (h : LD w0 B rb sb lb ex T l ent on w) (n : Int) (names : List ByteArray) (a : Option Addr) (c : Nat) (ha : At w a (strsV names)) (hl : names.length ≤ 1048576) :
    Calls Tryz.prog 61 #[.pointer (some ⟨sb, 0, none⟩), .int .i64 n, .slice a names.length c] w fun e w' => e = .returned (.bool (namedF T n names)) ∧ Below w.heap.size w w' := by
  obtain ⟨_, h⟩ := h.rsi
  exact named_rs h n names a c ha hl
theorem dHasNode_ld (h : LD w0 B rb sb lb ex T l ent on w) (m : Int) :
    Calls Tryz.prog 64 #[.pointer (some ⟨sb, 0, none⟩), .int .i64 m] w fun e w' => e = .returned (.bool (hasNodeF T l m)) ∧ Below w.heap.size w w' := by
  obtain ⟨_, h⟩ := h.rsi
  exact HasNode_rs h m
theorem dPop_ld (h : LD w0 B rb sb lb ex T l ent on w) : Calls Tryz.prog 32 #[.pointer (some ⟨sb, 0, none⟩)] w fun e w' => e = .returned (.int .i64 (l.getLast?.getD 0)) ∧ LD w0 B rb sb lb ex T l.dropLast ent on w' ∧ Keeps (Own w0 ex) w w' :=
  h.call fun _ hx => Pop_rs hx
theorem dSRemove_ld (h : LD w0 B rb sb lb ex T l ent on w) (n : Int) : Calls Tryz.prog 104 #[.pointer (some ⟨sb, 0, none⟩), .int .i64 n] w fun e w' => e = .returned (.tuple #[]) ∧ LD w0 B rb sb lb ex T (rmF l n) ent on w' ∧ Keeps (Own w0 ex) w w' :=
  h.call fun _ hx => Remove_rs hx n
theorem dSwap_ld (h : LD w0 B rb sb lb ex T l ent on w) (o n : Int) : Calls Tryz.prog 106 #[.pointer (some ⟨sb, 0, none⟩), .int .i64 o, .int .i64 n] w fun e w' => e = .returned (.tuple #[]) ∧ LD w0 B rb sb lb ex T (swapF l o n) ent on w' ∧ Keeps (Own w0 ex) w w' :=
  h.call fun _ hx => Swap_rs hx o n
theorem dSInsert_ld (h : LD w0 B rb sb lb ex T l ent on w) (b n : Int) (hl : l.length < 1000000) : Calls Tryz.prog 108 #[.pointer (some ⟨sb, 0, none⟩), .int .i64 b, .int .i64 n] w fun e w' => e = .returned (.tuple #[]) ∧ LD w0 B rb sb lb ex T (insF l b n) ent on w' ∧ Keeps (Own w0 ex) w w' :=
  h.call fun _ hx => Insert_rs hx b n hl
theorem dUntil_ld (h : LD w0 B rb sb lb ex T l ent on w) (names : List ByteArray) (a : Option Addr) (c : Nat) (ha : AtF (Own w0 ex) w a (strsV names)) (hn : names.length ≤ 1048576) :
    Calls Tryz.prog 37 #[.pointer (some ⟨sb, 0, none⟩), .slice a names.length c] w fun e w' => e = .returned (.tuple #[]) ∧ LD w0 B rb sb lb ex T (untilF T names l.reverse).reverse ent on w' ∧ Keeps (Own w0 ex) w w' := by
  obtain ⟨ge, h1, h2, h3, h4⟩ := h
  exact (Until_rs h2 names a c (AtF.other ha fun b _ hx => ⟨hx.1, fun hy => hx.2 (.inl hy)⟩) hn).mono fun e w' ⟨hq, hs, hk⟩ => ⟨hq, LD.si_step h1 h3 h4 hs hk⟩
theorem dElem_ld (h : LD w0 B rb sb lb ex T l ent on w) (sp : Int) (nm : ByteArray) (at' : List Pair) (n : Nat) (a : Option Addr) (c : Nat) (hnl : n = at'.length) (hc : a = none → c = 0) (hlen : at'.length ≤ 1048576) (ha : At w a (pairsV at')) :
    Calls Tryz.prog 93 #[.pointer (some ⟨rb, 0, none⟩), .int .i64 sp, .string nm, .slice a n c] w fun e w' =>
      e = .returned (.tuple #[.int .i64 (mkF T (elemN sp nm at')).2.1, .int .i64 (mkF T (elemN sp nm at')).2.2]) ∧ LD w0 B rb sb lb ex (mkF T (elemN sp nm at')).1 l ent on w' ∧ Keeps (Own w0 ex) w w' :=
  h.call fun _ hx => hx.tree_call fun _ hy => rElem_ri hy sp nm at' n a c hnl hc hlen ha
theorem dPut_ld (h : LD w0 B rb sb lb ex T l ent on w) (a b n : Int) : Calls Tryz.prog 94 #[.pointer (some ⟨rb, 0, none⟩), .int .i64 a, .int .i64 b, .int .i64 n] w fun e w' =>
    e = .returned (.int .i64 (putE T a b n).2) ∧ LD w0 B rb sb lb ex (putE T a b n).1 l ent on w' ∧ Keeps (Own w0 ex) w w' :=
  h.call fun _ hx => hx.tree_call fun _ hy => rPut_ri hy a b n
theorem dLike_ld (h : LD w0 B rb sb lb ex T l ent on w) (n : Int) : Calls Tryz.prog 105 #[.pointer (some ⟨rb, 0, none⟩), .int .i64 n] w fun e w' =>
    e = .returned (.tuple #[.int .i64 (likeF T n).2.1, .int .i64 (likeF T n).2.2]) ∧ LD w0 B rb sb lb ex (likeF T n).1 l ent on w' ∧ Keeps (Own w0 ex) w w' :=
  h.call fun _ hx => hx.tree_call fun _ hy => rLike_ri hy n
theorem dTake_ld (h : LD w0 B rb sb lb ex T l ent on w) (n : Int) : Calls Tryz.prog 73 #[.pointer (some ⟨rb, 0, none⟩), .int .i64 n] w fun e w' =>
    e = .returned (.int .i64 (takeE T n).2) ∧ LD w0 B rb sb lb ex (takeE T n).1 l ent on w' ∧ Keeps (Own w0 ex) w w' :=
  h.call fun _ hx => hx.tree_call fun _ hy => rTake_ri hy n
theorem dMove_ld (h : LD w0 B rb sb lb ex T l ent on w) (a b : Int) : Calls Tryz.prog 107 #[.pointer (some ⟨rb, 0, none⟩), .int .i64 a, .int .i64 b] w fun e w' =>
    e = .returned (.int .i64 (moveE T a b).2) ∧ LD w0 B rb sb lb ex (moveE T a b).1 l ent on w' ∧ Keeps (Own w0 ex) w w' :=
  h.call fun _ hx => hx.tree_call fun _ hy => rMove_ri hy a b
theorem dTText_ld (h : LD w0 B rb sb lb ex T l ent on w) (a b : Int) (s : ByteArray) {B' : Nat} (hB : B + s.size ≤ B') (hB' : B' ≤ 9223372036854775807) : Calls Tryz.prog 59 #[.pointer (some ⟨rb, 0, none⟩), .int .i64 a, .int .i64 b, .string s] w fun e w' =>
    e = .returned (.int .i64 (textE T a b s).2) ∧ LD w0 B' rb sb lb ex (textE T a b s).1 l ent on w' ∧ Keeps (Own w0 ex) w w' :=
  h.call fun _ hx => hx.tree_call fun _ hy => rText_ri hy a b s hB hB'
end
end Go.Proofs.YtclflmjpdglgiaaGreat

/-
  Contracts: the document's list: from, at, Has, without, Remove, Mark, Clear. No conditions beyond those that each lemma types.
-/
namespace Go.Proofs.YtclflmjpdglgiaaGreat
open Go.RowKit Mem

section
variable {w w0 : World} {lb tb sb : Nat} {ge : Option Nat} {l : List Int} {on : Bool}
/-- a new row is laid -/
theorem LdO.lay (h : LdO w lb tb sb ge l on) {B : Nat} {v : Value} {l' : List Int} {n : Nat} (hn : n = l'.length) (ho : w.ownsRow B 3 1 v n (intsV l')) (hB : lb < B) :
    LdO (w.setCell ⟨lb, 2, none⟩ v) lb tb sb v.ownBlock l' on ∧ ∀ k, v.ownBlock = some k → B ≤ k := by
  subst hn
  obtain ⟨h1, h2⟩ := own_low ho
  obtain ⟨a, c, _, _, _, _, _, _, _, _, hrow, _, _⟩ := h.cells
  have hne : v.ownBlock ≠ some lb := fun e => by have := h2 lb e; omega
  exact ⟨⟨v, Lib.heap_setCell_same (i := 2) hrow v, h1.kept fun k hk => heap_setCell_other _ _ _ _ (by rintro rfl; exact hne hk), hne⟩, h2⟩
end

section
variable (w : World) (lb tb sb : Nat) (ge : Option Nat) (l : List Int) (on : Bool)
set_option maxRecDepth 100000 in
theorem ldo_from (h : LdO w lb tb sb ge l on) (hl : l.length ≤ 1048576) : Calls Tryz.prog 68 #[.pointer (some ⟨lb, 0, none⟩)] w fun e w' => e = .returned (.int .i64 (rfind l (-1) + 1)) ∧ w = w' := by
  obtain ⟨a, c, c0, c1, c2, c3, hat, _⟩ := h.cells
  have HA := Lib.hid hat
  clear h hat
  go_enter Tryz.func68, Tryz.ntmps68
  go_wp2_with fail
  go_loop [3, 4] (fun o i => ∃ (k : Nat) (y : Int), k ≤ l.length ∧ i = .int .i64 k ∧ o = .int .i64 y ∧ y = rfind (l.take k) (-1) + 1) (fun _ i => l.length - (intOf i).toNat)
  case atStart => exact ⟨0, 0, Nat.zero_le _, rfl, rfl, rfl⟩
  case round =>
    obtain ⟨k, y, hk, rfl, rfl, hy⟩ := hrel
    have HY := Lib.hid hy
    clear hy
    by_cases hlt : k < l.length
    · obtain ⟨b, o, rfl, e1⟩ := HA.out k _ (intsV_get l k hlt)
      have HN : Hid (rfind (l.take (k + 1)) (-1) + 1 = if l[k] = -1 then (k : Int) + 1 else y) := Lib.hid (by
        have ht : l.take (k + 1) = l.take k ++ [l[k]] := by rw [List.take_add_one]; simp [hlt]
        rw [ht, rfind_snoc, HY.out, List.length_take, Nat.min_eq_left hk]
        split <;> rfl)
      by_cases he : l[k] = -1
      · have he' : (l[k] == -1) = true := by simpa using he
        have HE := Lib.hid he
        clear he
        go_wp2_with fail
        go_round
        case rel => exact ⟨k + 1, (k : Int) + 1, by omega, by go_num, (by first | rfl | go_num), by rw [HN.out, if_pos HE.out]⟩
        case measure => simp [intOf]; omega
      · have he' : (l[k] == -1) = false := by simpa using he
        have HE := Lib.hid he
        clear he
        go_wp2_with fail
        go_round
        case rel => exact ⟨k + 1, y, by omega, by go_num, rfl, by rw [HN.out, if_neg HE.out]⟩
        case measure => simp [intOf]; omega
    · have he : l.take k = l := List.take_of_length_le (by omega)
      go_wp2_with fail
      go_ret
      exact ⟨ret_int (by rw [HY.out, he]), rfl⟩

set_option maxRecDepth 100000 in
theorem ldo_at (h : LdO w lb tb sb ge l on) (n : Int) (hl : l.length ≤ 1048576) : Calls Tryz.prog 62 #[.pointer (some ⟨lb, 0, none⟩), .int .i64 n] w fun e w' => e = .returned (.int .i64 (rfind l n)) ∧ w = w' := by
  obtain ⟨a, c, c0, c1, c2, c3, hat, _⟩ := h.cells
  have HA := Lib.hid hat
  clear h hat
  go_enter Tryz.func62, Tryz.ntmps62
  go_wp2_with fail
  go_loop [5, 6] (fun o i => ∃ (k : Nat) (y : Int), k ≤ l.length ∧ i = .int .i64 k ∧ o = .int .i64 y ∧ y = rfind (l.take k) n) (fun _ i => l.length - (intOf i).toNat)
  case atStart => exact ⟨0, -1, Nat.zero_le _, rfl, rfl, rfl⟩
  case round =>
    obtain ⟨k, y, hk, rfl, rfl, hy⟩ := hrel
    have HY := Lib.hid hy
    clear hy
    by_cases hlt : k < l.length
    · obtain ⟨b, o, rfl, e1⟩ := HA.out k _ (intsV_get l k hlt)
      have HN : Hid (rfind (l.take (k + 1)) n = if l[k] = n then (k : Int) else y) := Lib.hid (by
        have ht : l.take (k + 1) = l.take k ++ [l[k]] := by rw [List.take_add_one]; simp [hlt]
        rw [ht, rfind_snoc, HY.out, List.length_take, Nat.min_eq_left hk])
      by_cases he : l[k] = n
      · have he' : (l[k] == n) = true := by simpa using he
        have HE := Lib.hid he
        clear he
        go_wp2_with fail
        go_round
        case rel => exact ⟨k + 1, k, by omega, by go_num, rfl, by rw [HN.out, if_pos HE.out]⟩
        case measure => simp [intOf]; omega
      · have he' : (l[k] == n) = false := by simpa using he
        have HE := Lib.hid he
        clear he
        go_wp2_with fail
        go_round
        case rel => exact ⟨k + 1, y, by omega, by go_num, rfl, by rw [HN.out, if_neg HE.out]⟩
        case measure => simp [intOf]; omega
    · have he : l.take k = l := List.take_of_length_le (by omega)
      go_wp2_with fail
      go_ret
      exact ⟨ret_int (by rw [HY.out, he]), rfl⟩

theorem ldo_has (h : LdO w lb tb sb ge l on) (n : Int) (hl : l.length ≤ 1048576) : Calls Tryz.prog 71 #[.pointer (some ⟨lb, 0, none⟩), .int .i64 n] w fun e w' => e = .returned (.bool (decide (0 ≤ rfind l n))) ∧ w = w' := by
  have HF := Lib.hid (ldo_at w lb tb sb ge l on h n hl)
  clear h
  go_enter Tryz.func71, Tryz.ntmps71
  go_wp2_with (go_at_call 62; go_must (refine HF.out.mono ?_; rintro e w1 ⟨rfl, rfl⟩))
  go_ret
  exact ⟨rfl, rfl⟩

set_option maxRecDepth 100000 in
set_option maxHeartbeats 4000000 in
theorem ldo_without (h : LdO w lb tb sb ge l on) (p : Int) (hl : l.length ≤ 1048576) : Calls Tryz.prog 96 #[.pointer (some ⟨lb, 0, none⟩), .int .i64 p] w fun e w' =>
    e = .returned (.tuple #[]) ∧ ∃ ge', LdO w' lb tb sb ge' (dropF l p) on ∧ (∀ k, ge' = some k → ge = some k ∨ w.heap.size ≤ k) ∧ Keeps (SB lb ge) w w' := by
  obtain ⟨a, c, c0, c1, c2, c3, hat, _, f2, _, _, _, _⟩ := h.cells
  have hlt := h.lt lb (.inl rfl)
  have HA := Lib.hid hat
  have HS := Lib.hid h
  obtain ⟨i0, hi, hz0, hz1, hz2⟩ := info_parts stk_int
  clear h hat
  go_enter Tryz.func96, Tryz.ntmps96
  go_wp2_with fail
  go_loopw [4, 5] (fun v i wr => ∃ (k : Nat) (y : Value), y = v ∧ k ≤ l.length ∧ i = .int .i64 k ∧ wr.ownsRow w.heap.size 3 1 y (dropF (l.take k) p).length (intsV (dropF (l.take k) p)) ∧ Below w.heap.size w wr) (fun _ i _ => l.length - (intOf i).toNat)
  case atStart => exact ⟨0, _, rfl, Nat.zero_le _, rfl, by rw [List.take_zero, show dropF [] p = [] by unfold dropF; split <;> simp]; exact World.ownsRow_nil _ _ _ _, Below.refl _ _⟩
  case round =>
    obtain ⟨k, v, rfl, hk, rfl, ho, hb⟩ := hrel
    have c2' := cell_later hb c2
    have f2' := (hb.frozen (p := ⟨lb, 2, none⟩) hlt).trans f2
    have HO := Lib.hid ho
    have HB := Lib.hid hb
    by_cases hlt2 : k < l.length
    · obtain ⟨b, o, rfl, e0⟩ := HA.out _ _ (intsV_get l k hlt2)
      have e1 := cell_later hb e0
      have HN := Lib.hid (drop_step l p k hlt2)
      have hml : (dropF (l.take k) p).length ≤ 1048576 := by
        have := dropF_len (l.take k) p
        rw [List.length_take] at this
        omega
      generalize dropF (l.take k) p = M at *
      clear e0 c0 c1 c2 c3
      by_cases he : (k : Int) = p
      · have he' : ((k : Int) != p) = false := by simpa using he
        have HE2 := Lib.hid he
        clear he ho hb
        go_wp2_with fail
        go_roundw
        case rel => exact ⟨k + 1, _, rfl, by omega, by go_num, by rw [HN.out, if_pos HE2.out]; exact HO.out, HB.out⟩
        case measure => simp [intOf]; omega
      · have he' : ((k : Int) != p) = true := by simpa using he
        have HE2 := Lib.hid he
        have b1 : M.length + 1 ≤ maxLen := by unfold maxLen; omega
        have b2 : (M.length + 1) * 8 ≤ 140737488355328 := by omega
        have HQ := Lib.hid (HO.out.alloc (.cells #[.int .i64 l[k]] 3))
        have HZ2 := Lib.hid (show w.heap.size ≤ (wr.alloc (.cells #[.int .i64 l[k]] 3)).heap.size from by have := HB.out.size; simp; omega)
        clear he ho hb
        go_wp2_with (at_builtin; (refine wpList_append_slice _ rfl _ _ 30 rfl w.heap.size 3 i0 _ 1 8 Tryz.underlying30 hi hz0 hz1 hz2 rfl (by decide) _ M.length (intsV M) rfl HQ.out (some ⟨wr.heap.size, 0, none⟩) 1 1 (intsV [l[k]]) rfl rfl (fun h => by cases h) (at_alloc rfl rfl) (intsV_one _) b1 b2 HZ2.out ?_; intro v3 w3 hown3 hgr3; have HO3 := Lib.hid hown3; have HB3 := Lib.hid ((HB.out.alloc HB.out.size _).grown hgr3 HZ2.out (fun b hb => (HQ.out.lt b hb).1)); clear hown3 hgr3))
        go_roundw
        case rel => exact ⟨k + 1, _, rfl, by omega, by go_num, by rw [HN.out, if_neg HE2.out, intsV_append, List.length_append]; exact HO3.out, HB3.out⟩
        case measure => simp [intOf]; omega
    · have he : l.take k = l := List.take_of_length_le (by omega)
      rw [he] at HO
      obtain ⟨av, cv, rfl, _, _, _, _⟩ := own_at HO.out
      obtain ⟨hL, hL2⟩ := (HS.out.below hb).lay rfl HO.out hlt
      have HLL := Lib.hid hL
      have HL2 := Lib.hid hL2
      have HK := Lib.hid ((Keeps.ofBelow (F := SB lb ge) hb).set (p := ⟨lb, 2, none⟩) (.inl (.inl rfl)) (.slice av (dropF l p).length cv))
      clear c0 c1 c2 c3 hL hL2 ho hb he
      go_wp2_with fail
      go_end0
      exact ⟨rfl, _, HLL.out, fun k hk => .inr (HL2.out k hk), HK.out⟩

set_option maxRecDepth 100000 in
theorem ldo_remove (h : LdO w lb tb sb ge l on) (n : Int) (hl : l.length ≤ 1048576) : Calls Tryz.prog 65 #[.pointer (some ⟨lb, 0, none⟩), .int .i64 n] w fun e w' =>
    e = .returned (.tuple #[]) ∧ ∃ ge', LdO w' lb tb sb ge' (rmF l n) on ∧ (∀ k, ge' = some k → ge = some k ∨ w.heap.size ≤ k) ∧ Keeps (SB lb ge) w w' := by
  have HF := Lib.hid (ldo_at w lb tb sb ge l on h n hl)
  have HW := Lib.hid (ldo_without w lb tb sb ge l on h (rfind l n) hl)
  have HS := Lib.hid h
  by_cases h0 : 0 ≤ rfind l n
  · have HR : Hid (rmF l n = dropF l (rfind l n)) := Lib.hid rfl
    generalize rfind l n = p at *
    clear h
    go_enter Tryz.func65, Tryz.ntmps65
    go_wp2_with (go_at_call 62; go_must (refine HF.out.mono ?_; rintro e w1 ⟨rfl, rfl⟩))
    refine HW.out.mono ?_
    rintro e w2 ⟨rfl, ge', h2, h3, h4⟩
    have H2 := Lib.hid h2
    have H3 := Lib.hid h3
    have H4 := Lib.hid h4
    clear h2 h3 h4
    go_wp2_with fail
    go_end0
    rw [HR.out]
    exact ⟨rfl, ge', H2.out, H3.out, H4.out⟩
  · have HR : Hid (rmF l n = l) := Lib.hid (by rw [rmF, dropF, if_neg h0])
    generalize rfind l n = p at *
    clear h HW
    go_enter Tryz.func65, Tryz.ntmps65
    go_wp2_with (go_at_call 62; go_must (refine HF.out.mono ?_; rintro e w1 ⟨rfl, rfl⟩))
    go_end0
    rw [HR.out]
    exact ⟨rfl, ge, HS.out, fun k hk => .inl hk, Keeps.refl _ _⟩


set_option maxRecDepth 100000 in
set_option maxHeartbeats 4000000 in
theorem ldo_mark (h : LdO w lb tb sb ge l on) (hl : l.length ≤ 1000000) : Calls Tryz.prog 28 #[.pointer (some ⟨lb, 0, none⟩)] w fun e w' =>
    e = .returned (.tuple #[]) ∧ ∃ ge', LdO w' lb tb sb ge' (l ++ [-1]) on ∧ (∀ k, ge' = some k → ge = some k ∨ w.heap.size ≤ k) ∧ Keeps (SB lb ge) w w' := by
  have hlt := h.lt lb (.inl rfl)
  obtain ⟨a, c, c0, c1, c2, c3, hat, hown, f2, _, _, hc0, _⟩ := h.cells
  have HK := Lib.hid (hat.below ((Below.refl _ _).alloc (Nat.le_refl _) (.cells #[] 3)))
  have HE : Hid ((w.alloc (.cells #[] 3)).ownsRow w.heap.size 3 1 (.slice (some ⟨w.heap.size, 0, none⟩) 0 0) 0 []) := World.ownsRow_lit w #[] 0 (Nat.le_refl _) (Nat.zero_le _) rfl
  have H3 := Lib.hid hc0
  obtain ⟨i0, hi, hz0, hz1, hz2⟩ := info_parts stk_int
  have b0 : 0 + l.length ≤ maxLen := by unfold maxLen; omega
  have b1 : (0 + l.length) * 8 ≤ 140737488355328 := by omega
  have b2 : l.length + 1 ≤ maxLen := by unfold maxLen; omega
  have b3 : (l.length + 1) * 8 ≤ 140737488355328 := by omega
  have HNL := Lib.hid (show (intsV l).length = l.length * 1 by rw [intsV_length, Nat.mul_one])
  have HZ : Hid (w.heap.size ≤ (w.alloc (.cells #[] 3)).heap.size) := by show _ ≤ _; simp
  have HS := Lib.hid h
  clear h hat hown hc0
  go_enter Tryz.func28, Tryz.ntmps28
  go_wp2_with (first
    | (at_builtin; (refine wpList_append_slice _ rfl (.tmp 3) (.tmp 7) 30 rfl w.heap.size 3 i0 _ 1 8 Tryz.underlying30 hi hz0 hz1 hz2 rfl (by decide) _ 0 [] rfl HE.out a l.length c (intsV l) rfl HNL.out H3.out HK.out (intsV_one l) b0 b1 HZ.out ?_; intro v2 w2 hown2 hgr2; simp only [Nat.zero_add, List.nil_append] at hown2; have HO2 := Lib.hid hown2; have HB2 := Lib.hid (((Below.refl _ _).alloc (Nat.le_refl _) _).grown hgr2 HZ.out (fun b h => (HE.out.lt b h).1)); clear hown2 hgr2; have HQ2 := Lib.hid (HO2.out.alloc (.cells #[.int .i64 (-1)] 3)); have HZ2 := Lib.hid (show w.heap.size ≤ (w2.alloc (.cells #[.int .i64 (-1)] 3)).heap.size from by have := HB2.out.size; simp; omega)))
    | (at_builtin; (refine wpList_append_slice _ rfl (.tmp 8) (.tmp 9) 30 rfl w.heap.size 3 i0 _ 1 8 Tryz.underlying30 hi hz0 hz1 hz2 rfl (by decide) _ l.length (intsV l) rfl HQ2.out (some ⟨w2.heap.size, 0, none⟩) 1 1 (intsV [-1]) rfl rfl (fun h => by cases h) (at_alloc rfl rfl) (intsV_one _) b2 b3 HZ2.out ?_; intro v4 w4 hown4 hgr4; obtain ⟨a4, c4, rfl, _, _, _, _⟩ := own_at hown4; have HB4 := Lib.hid ((HB2.out.alloc HB2.out.size _).grown hgr4 HZ2.out (fun b hb => (HQ2.out.lt b hb).1)); have HO4 := Lib.hid hown4; have c2' := cell_later HB4.out c2; have f2' := (HB4.out.frozen (p := ⟨lb, 2, none⟩) hlt).trans f2; clear hown4 hgr4)))
  obtain ⟨hL, hL2⟩ := (HS.out.below HB4.out).lay (l' := l ++ [-1]) (n := l.length + 1) (by simp) (by rw [intsV_append]; exact HO4.out) hlt
  go_end0
  exact ⟨rfl, _, hL, fun k hk => .inr (hL2 k hk), (Keeps.ofBelow (F := SB lb ge) HB4.out).set (p := ⟨lb, 2, none⟩) (.inl (.inl rfl)) _⟩
end
end Go.Proofs.YtclflmjpdglgiaaGreat

/-
  Contracts: the document's list: Clear, within, alike. No conditions beyond those that each lemma types.
-/
namespace Go.Proofs.YtclflmjpdglgiaaGreat
open Go.RowKit Mem

section
variable (w : World) (lb tb sb : Nat) (ge : Option Nat) (l : List Int) (on : Bool)
set_option maxRecDepth 100000 in
set_option maxHeartbeats 4000000 in
theorem ldo_clear (h : LdO w lb tb sb ge l on) (hl : l.length ≤ 1000000) : Calls Tryz.prog 30 #[.pointer (some ⟨lb, 0, none⟩)] w fun e w' =>
    e = .returned (.tuple #[]) ∧ ∃ ge', LdO w' lb tb sb ge' (clearF l) on ∧ (∀ k, ge' = some k → ge = some k ∨ w.heap.size ≤ k) ∧ Keeps (SB lb ge) w w' := by
  have HF := Lib.hid (ldo_from w lb tb sb ge l on h (by omega))
  obtain ⟨hh1, hh2⟩ := handF_le l
  rw [← hh1] at HF
  have HP : Hid (clearF l = l.take (handF l - 1)) := Lib.hid rfl
  generalize handF l = hd at *
  have hlt := h.lt lb (.inl rfl)
  have HS := Lib.hid h
  obtain ⟨a, c, c0, c1, c2, c3, hat, hown, f2, _, _, hc0, _⟩ := h.cells
  obtain ⟨m, hm⟩ : ∃ m, m = hd - 1 := ⟨_, rfl⟩
  rw [← hm] at HP
  have hml : m ≤ l.length := by omega
  have hA' : At w a (intsV (l.take m)) := by
    rw [← List.take_append_drop m l, intsV_append] at hat
    exact hat.left
  have HA := Lib.hid (hA'.below ((Below.refl _ _).alloc (Nat.le_refl _) (.cells #[] 3)))
  have HE : Hid ((w.alloc (.cells #[] 3)).ownsRow w.heap.size 3 1 (.slice (some ⟨w.heap.size, 0, none⟩) 0 0) 0 []) := World.ownsRow_lit w #[] 0 (Nat.le_refl _) (Nat.zero_le _) rfl
  obtain ⟨i0, hi, hz0, hz1, hz2⟩ := info_parts stk_int
  have b0 : 0 + m ≤ maxLen := by unfold maxLen; omega
  have b1 : (0 + m) * 8 ≤ 140737488355328 := by omega
  have HNL := Lib.hid (show (intsV (l.take m)).length = m * 1 by rw [intsV_length, Nat.mul_one, List.length_take]; omega)
  have HZ : Hid (w.heap.size ≤ (w.alloc (.cells #[] 3)).heap.size) := by show _ ≤ _; simp
  have hcl : l.length ≤ c ∧ c ≤ 9223372036854775807 := by
    obtain ⟨_, _, he, k1, k2, _⟩ := own_at hown.1
    injection he with _ _ e3
    subst e3
    exact ⟨k1, k2⟩
  have hform : (a = none ∧ c = 0 ∧ l.length = 0) ∨ ∃ g0, a = some ⟨g0, 0, none⟩ := by
    rcases hown.1.2 with ⟨he, h0⟩ | ⟨g0, cap, cur, he, _⟩
    · injection he with e1 e2 e3
      exact .inl ⟨e1, e3, h0⟩
    · injection he with e1 e2 e3
      exact .inr ⟨g0, e1⟩
  have HC := Lib.hid (fun h : a = none => hc0 h)
  clear h hat hA' hown hc0 hh1
  rcases hform with ⟨rfl, rfl, hen⟩ | ⟨g0, rfl⟩
  · obtain rfl : hd = 0 := by omega
    obtain rfl : m = 0 := by omega
    rw [hen] at c2
    clear hm
    go_enter Tryz.func30, Tryz.ntmps30
    go_wp2_with (first
      | (go_at_call 68; go_must (refine HF.out.mono ?_; rintro e w1 ⟨rfl, rfl⟩))
      | (at_builtin; (refine wpList_append_slice _ rfl _ _ 30 rfl w.heap.size 3 i0 _ 1 8 Tryz.underlying30 hi hz0 hz1 hz2 rfl (by decide) _ 0 [] rfl HE.out none 0 0 (intsV (l.take 0)) rfl HNL.out (fun _ => rfl) HA.out (intsV_one _) b0 b1 HZ.out ?_; intro v2 w2 hown2 hgr2; simp only [Nat.zero_add, List.nil_append] at hown2; obtain ⟨a4, c4, rfl, _, _, _, _⟩ := own_at hown2; have HO2 := Lib.hid hown2; have HB2 := Lib.hid (((Below.refl _ _).alloc (Nat.le_refl _) _).grown hgr2 HZ.out (fun b h => (HE.out.lt b h).1)); have c2' := cell_later HB2.out c2; have f2' := (HB2.out.frozen (p := ⟨lb, 2, none⟩) hlt).trans f2; clear hown2 hgr2)))
    obtain ⟨hL, hL2⟩ := (HS.out.below HB2.out).lay (l' := l.take 0) (n := 0) (by rw [List.length_take]; omega) HO2.out hlt
    go_end0
    rw [HP.out]
    exact ⟨rfl, _, hL, fun k hk => .inr (hL2 k hk), (Keeps.ofBelow (F := SB lb ge) HB2.out).set (p := ⟨lb, 2, none⟩) (.inl (.inl rfl)) _⟩
  · have hmc : m ≤ c := by omega
    by_cases h0 : hd = 0
    · obtain rfl : m = hd := by omega
      have h00 : ¬ ((0 : Int) < (m : Int)) := by omega
      clear hm h0
      go_enter Tryz.func30, Tryz.ntmps30
      go_wp2_with (first
        | (go_at_call 68; go_must (refine HF.out.mono ?_; rintro e w1 ⟨rfl, rfl⟩))
        | (at_builtin; (refine wpList_append_slice _ rfl _ _ 30 rfl w.heap.size 3 i0 _ 1 8 Tryz.underlying30 hi hz0 hz1 hz2 rfl (by decide) _ 0 [] rfl HE.out _ m c (intsV (l.take m)) rfl HNL.out HC.out HA.out (intsV_one _) b0 b1 HZ.out ?_; intro v2 w2 hown2 hgr2; simp only [Nat.zero_add, List.nil_append] at hown2; obtain ⟨a4, c4, rfl, _, _, _, _⟩ := own_at hown2; have HO2 := Lib.hid hown2; have HB2 := Lib.hid (((Below.refl _ _).alloc (Nat.le_refl _) _).grown hgr2 HZ.out (fun b h => (HE.out.lt b h).1)); have c2' := cell_later HB2.out c2; have f2' := (HB2.out.frozen (p := ⟨lb, 2, none⟩) hlt).trans f2; clear hown2 hgr2)))
      obtain ⟨hL, hL2⟩ := (HS.out.below HB2.out).lay (l' := l.take m) (n := m) (by rw [List.length_take]; omega) HO2.out hlt
      go_end0
      rw [HP.out]
      exact ⟨rfl, _, hL, fun k hk => .inr (hL2 k hk), (Keeps.ofBelow (F := SB lb ge) HB2.out).set (p := ⟨lb, 2, none⟩) (.inl (.inl rfl)) _⟩
    · obtain rfl : hd = m + 1 := by omega
      clear hm h0
      go_enter Tryz.func30, Tryz.ntmps30
      go_wp2_with (first
        | (go_at_call 68; go_must (refine HF.out.mono ?_; rintro e w1 ⟨rfl, rfl⟩))
        | (at_builtin; (refine wpList_append_slice _ rfl _ _ 30 rfl w.heap.size 3 i0 _ 1 8 Tryz.underlying30 hi hz0 hz1 hz2 rfl (by decide) _ 0 [] rfl HE.out _ m c (intsV (l.take m)) rfl HNL.out HC.out HA.out (intsV_one _) b0 b1 HZ.out ?_; intro v2 w2 hown2 hgr2; simp only [Nat.zero_add, List.nil_append] at hown2; obtain ⟨a4, c4, rfl, _, _, _, _⟩ := own_at hown2; have HO2 := Lib.hid hown2; have HB2 := Lib.hid (((Below.refl _ _).alloc (Nat.le_refl _) _).grown hgr2 HZ.out (fun b h => (HE.out.lt b h).1)); have c2' := cell_later HB2.out c2; have f2' := (HB2.out.frozen (p := ⟨lb, 2, none⟩) hlt).trans f2; clear hown2 hgr2)))
      obtain ⟨hL, hL2⟩ := (HS.out.below HB2.out).lay (l' := l.take m) (n := m) (by rw [List.length_take]; omega) HO2.out hlt
      go_end0
      rw [HP.out]
      exact ⟨rfl, _, hL, fun k hk => .inr (hL2 k hk), (Keeps.ofBelow (F := SB lb ge) HB2.out).set (p := ⟨lb, 2, none⟩) (.inl (.inl rfl)) _⟩

theorem isP_snoc (l : List Pair) (y p : Pair) : isP (l ++ [y]) p = (isP l p || decide (p = y)) := by simp [isP]
theorem allIn_snoc (a : List Pair) (y : Pair) (b : List Pair) : allIn (a ++ [y]) b = (allIn a b && isP b y) := by simp [allIn]
theorem allIn_not {a b : List Pair} {k : Nat} (h : k < a.length) (hp : isP b a[k] = false) : allIn a b = false := by
  rw [allIn, List.all_eq_false]
  exact ⟨a[k], List.getElem_mem h, by rw [hp]; simp⟩

set_option maxRecDepth 100000 in
set_option maxHeartbeats 4000000 in
theorem within_any (l r : List Pair) (a a' : Option Addr) (c c' : Nat) (w : World) (n m : Nat) (hn : n = l.length) (hm : m = r.length) (hl : l.length ≤ 1048576) (hr : r.length ≤ 1048576) (ha : At w a (pairsV l)) (ha' : At w a' (pairsV r)) :
    Calls Tryz.prog 119 #[.slice a n c, .slice a' m c'] w fun e w' => e = .returned (.bool (allIn l r)) ∧ Below w.heap.size w w' := by
  subst hn hm
  have HA := Lib.hid ha
  have HA' := Lib.hid ha'
  clear ha ha'
  go_enter Tryz.func119, Tryz.ntmps119
  go_wp2_with fail
  go_loopw [5] (fun i wr => ∃ k : Nat, k ≤ l.length ∧ i = .int .i64 k ∧ Below w.heap.size w wr ∧ allIn (l.take k) r = true) (fun i _ => l.length - (intOf i).toNat)
  case atStart => exact ⟨0, Nat.zero_le _, rfl, Below.refl _ _, rfl⟩
  case round =>
    obtain ⟨k, hk, rfl, hb, hv⟩ := hrel
    have HV := Lib.hid hv
    have HB := Lib.hid hb
    clear hv hb
    by_cases hlt : k < l.length
    · have HX := Lib.hid (show ∃ b o, a = some ⟨b, o, none⟩ ∧ ∀ u, Below w.heap.size w u → u.cell? ⟨b, o + k * 2, none⟩ = some (.string l[k].1) ∧ u.cell? ⟨b, o + k * 2 + 1, none⟩ = some (.string l[k].2) from by
        obtain ⟨b, o, e, _, _⟩ := pair_cells HA.out hlt
        refine ⟨b, o, e, fun u hu => ?_⟩
        obtain ⟨b', o', e', _, h1, h2⟩ := pair_cells (HA.out.below hu) hlt
        rw [e] at e'
        injection e' with e'
        injection e' with e1 e2
        subst e1 e2
        exact ⟨h1, h2⟩)
      have HT := Lib.hid (show allIn (l.take (k + 1)) r = isP r l[k] from by rw [List.take_succ_eq_append_getElem hlt, allIn_snoc, HV.out]; rfl)
      have HNO := Lib.hid (fun h : isP r l[k] = false => allIn_not hlt h)
      obtain ⟨b, o, rfl, hx⟩ := HX.out
      have HX2 := Lib.hid hx
      obtain ⟨p, hp⟩ : ∃ p, p = l[k] := ⟨_, rfl⟩
      rw [← hp] at HX2 HT HNO
      clear hx HX hp
      go_wp2_with fail
      go_loopw [6, 7] (fun f i wr => ∃ (j : Nat) (q : Bool), q = isP (r.take j) p ∧ j ≤ r.length ∧ i = .int .i64 j ∧ f = .bool q ∧ Below w.heap.size w wr) (fun _ i _ => r.length - (intOf i).toNat)
      case atStart => exact ⟨0, false, rfl, Nat.zero_le _, rfl, rfl, HB.out⟩
      case round =>
        obtain ⟨j, q, hq, hj, rfl, rfl, hb⟩ := hrel
        have HQ := Lib.hid hq
        have HBr := Lib.hid hb
        clear hq
        by_cases hlj : j < r.length
        · obtain ⟨b2, o2, rfl, hlb, y0, y1⟩ := pair_cells (HA'.out.below hb) hlj
          obtain ⟨x0, x1⟩ := HX2.out _ hb
          have hne := eql_attr p r[j]
          have HS := Lib.hid (show isP (r.take (j + 1)) p = (q || decide (p = r[j])) from by rw [List.take_succ_eq_append_getElem hlj, isP_snoc, HQ.out])
          obtain ⟨z, hz⟩ : ∃ z, z = r[j] := ⟨_, rfl⟩
          rw [← hz] at y0 y1 hne HS
          obtain ⟨d, hd⟩ : ∃ d, d = decide (p = z) := ⟨_, rfl⟩
          rw [← hd] at hne HS
          clear hb hz hd
          cases q
          all_goals
            go_wp2_with fail
            go_quiet (fail)
            go_wp2_with fail
            go_roundw
            case rel => exact ⟨j + 1, _, rfl, by omega, by go_num, by rw [HS.out]; rfl, belowCall HBr.out (stk_drewN _ _)⟩
            case measure => simp [intOf]; omega
        · have HE := Lib.hid (show q = isP r p from by rw [HQ.out, List.take_of_length_le (by omega)])
          clear hb
          cases q
          · go_wp2_with fail
            go_ret
            exact ⟨ret_bool (by rw [HNO.out HE.out.symm]), HBr.out⟩
          · go_wp2_with fail
            go_roundw
            case rel => exact ⟨k + 1, by omega, by go_num, HBr.out, by rw [HT.out, HE.out]⟩
            case measure => simp [intOf]; omega
    · have HE := Lib.hid (show allIn l r = true from by rw [← HV.out, List.take_of_length_le (by omega)])
      go_wp2_with fail
      go_ret
      exact ⟨ret_bool HE.out.symm, HB.out⟩
end
end Go.Proofs.YtclflmjpdglgiaaGreat

/-
  Contracts: the document's list: alike, Push, Find. No conditions beyond those that each lemma types.
-/
namespace Go.Proofs.YtclflmjpdglgiaaGreat
open Go.RowKit Mem

theorem RSI.att {w0 w : World} {B rb sb : Nat} {ex : Nat → Prop} {T : TreeD} {l : List Int} (h : RSI w0 B rb sb ex T l w) : ∀ d ∈ T.nodes, d.attrs.length ≤ 1048576 := by
  obtain ⟨_, _, _, _, h, _⟩ := h
  exact h.att
theorem RSI.ref {w0 w : World} {B rb sb : Nat} {ex : Nat → Prop} {T : TreeD} {l : List Int} (h : RSI w0 B rb sb ex T l w) : ∃ gn gk far, RefO w rb gn gk (farW far T) := by
  obtain ⟨gn, gk, _, far, h, _⟩ := h
  exact ⟨gn, gk, far, h.tree⟩

set_option maxRecDepth 100000 in
set_option maxHeartbeats 8000000 in
theorem alike_any (T : TreeD) (w : World) (lb rb sb gn gk : Nat) (ge : Option Nat) (ent : List Int) (on : Bool) (h : LdO w lb rb sb ge ent on) (hR : RefO w rb gn gk T) (hat : ∀ d ∈ T.nodes, d.attrs.length ≤ 1048576) (x y : Int) (hx : elemF T x = true) (hy : elemF T y = true) :
    Calls Tryz.prog 95 #[.pointer (some ⟨lb, 0, none⟩), .int .i64 x, .int .i64 y] w fun e w' => e = .returned (.bool (likeQ T x y)) ∧ Below w.heap.size w w' := by
  obtain ⟨i, hi, rfl, _, _⟩ := elemF_nat hx
  obtain ⟨j, hj, rfl, _, _⟩ := elemF_nat hy
  obtain ⟨s1, s2, s3⟩ := what_of hi hx
  obtain ⟨t1, t2, t3⟩ := what_of hj hy
  have HN : Hid (likeQ T i j = ((T.nodes[i].space == T.nodes[j].space) && (T.nodes[i].name.toList == T.nodes[j].name.toList) && decide (T.nodes[i].attrs.length = T.nodes[j].attrs.length) && allIn T.nodes[i].attrs T.nodes[j].attrs && allIn T.nodes[j].attrs T.nodes[i].attrs)) := Lib.hid (by rw [likeQ, s1, s2, s3, t1, t2, t3])
  obtain ⟨_, _, c0, _, _⟩ := h.cells
  obtain ⟨capn, capk, p1, p2, p3, p4, r0, r1, _, _, _, _⟩ := hR.head
  obtain ⟨aa, ac, _, ka1, hA, d0, d1, d2, d3, d4, d5⟩ := hR.node6 hi
  obtain ⟨ba, bc, _, kb1, hB, f0, f1, f2, f3, f4, f5⟩ := hR.node6 hj
  have hlA := hat _ (List.getElem_mem hi)
  have hlB := hat _ (List.getElem_mem hj)
  have HA := Lib.hid hA.at
  have HB := Lib.hid hB.at
  unfold maxLen at p2
  clear h hR hat hx hy s1 s2 s3 t1 t2 t3 hA hB
  obtain ⟨e1, he1⟩ : ∃ z, z = T.nodes[i].elem := ⟨_, rfl⟩
  obtain ⟨e2, he2⟩ : ∃ z, z = T.nodes[j].elem := ⟨_, rfl⟩
  obtain ⟨sp1, hsp1⟩ : ∃ z, z = T.nodes[i].space := ⟨_, rfl⟩
  obtain ⟨sp2, hsp2⟩ : ∃ z, z = T.nodes[j].space := ⟨_, rfl⟩
  obtain ⟨n1, hn1⟩ : ∃ z, z = T.nodes[i].name := ⟨_, rfl⟩
  obtain ⟨n2, hn2⟩ : ∃ z, z = T.nodes[j].name := ⟨_, rfl⟩
  obtain ⟨l1, hl1⟩ : ∃ z, z = T.nodes[i].attrs := ⟨_, rfl⟩
  obtain ⟨l2, hl2⟩ : ∃ z, z = T.nodes[j].attrs := ⟨_, rfl⟩
  obtain ⟨x1, hx1⟩ : ∃ z, z = T.nodes[i].text := ⟨_, rfl⟩
  obtain ⟨x2, hx2⟩ : ∃ z, z = T.nodes[j].text := ⟨_, rfl⟩
  obtain ⟨q1, hq1⟩ : ∃ z, z = T.nodes[i].parent := ⟨_, rfl⟩
  obtain ⟨q2, hq2⟩ : ∃ z, z = T.nodes[j].parent := ⟨_, rfl⟩
  rw [← he1] at d0
  rw [← he2] at f0
  rw [← hsp1] at d1 HN
  rw [← hsp2] at f1 HN
  rw [← hn1] at d2 HN
  rw [← hn2] at f2 HN
  rw [← hl1] at d3 HN HA hlA ka1
  rw [← hl2] at f3 HN HB hlB kb1
  rw [← hx1] at d4
  rw [← hx2] at f4
  rw [← hq1] at d5
  rw [← hq2] at f5
  clear he1 he2 hsp1 hsp2 hn1 hn2 hl1 hl2 hx1 hx2 hq1 hq2
  have hb := (Below.refl w.heap.size w).alloc (Nat.le_refl _) (.cells #[.bool e1, .int .i64 sp1, .string n1, .slice aa l1.length ac, .string x1, .int .i64 q1] 88)
  have c0' := cell_later hb c0
  have r0' := cell_later hb r0
  have f0' := cell_later hb f0
  have f1' := cell_later hb f1
  have f2' := cell_later hb f2
  have f3' := cell_later hb f3
  have f4' := cell_later hb f4
  have f5' := cell_later hb f5
  have hX : ((w.alloc (.cells #[.bool e1, .int .i64 sp1, .string n1, .slice aa l1.length ac, .string x1, .int .i64 q1] 88)).alloc (.cells #[.bool e2, .int .i64 sp2, .string n2, .slice ba l2.length bc, .string x2, .int .i64 q2] 88)).heap[w.heap.size]? = _ := (Below.heap_alloc _ _ _ (by simp)).trans (heap_alloc_new w _)
  have hY : ((w.alloc (.cells #[.bool e1, .int .i64 sp1, .string n1, .slice aa l1.length ac, .string x1, .int .i64 q1] 88)).alloc (.cells #[.bool e2, .int .i64 sp2, .string n2, .slice ba l2.length bc, .string x2, .int .i64 q2] 88)).heap[w.heap.size + 1]? = some (.cells #[.bool e2, .int .i64 sp2, .string n2, .slice ba l2.length bc, .string x2, .int .i64 q2] 88 (0, 0)) := heap_new_at (by simp)
  have HB2 := Lib.hid (hb.alloc (by simp) (.cells #[.bool e2, .int .i64 sp2, .string n2, .slice ba l2.length bc, .string x2, .int .i64 q2] 88))
  obtain ⟨⟨_, u1, u2, u3, _, _⟩, _⟩ := cells6r hX
  obtain ⟨⟨_, v1, v2, v3, _, _⟩, _⟩ := cells6r hY
  clear hb hX hY
  go_enter Tryz.func95, Tryz.ntmps95
  go_wp2_with fail
  generalize (w.alloc (.cells #[.bool e1, .int .i64 sp1, .string n1, .slice aa l1.length ac, .string x1, .int .i64 q1] 88)).alloc (.cells #[.bool e2, .int .i64 sp2, .string n2, .slice ba l2.length bc, .string x2, .int .i64 q2] 88) = w2 at *
  clear c0 r0 d0 d1 d2 d3 d4 d5 f0 f1 f2 f3 f4 f5 c0' r0' f0' f1' f2' f3' f4' f5'
  refine (within_any l1 l2 aa ba ac bc w2 _ _ rfl rfl hlA hlB (HA.out.below HB2.out) (HB.out.below HB2.out)).mono ?_
  rintro e w3 ⟨rfl, hb3⟩
  have u1' := cell_later hb3 u1
  have u2' := cell_later hb3 u2
  have u3' := cell_later hb3 u3
  have v1' := cell_later hb3 v1
  have v2' := cell_later hb3 v2
  have v3' := cell_later hb3 v3
  have HB3 := Lib.hid (belowCall HB2.out hb3)
  clear hb3 u1 u2 u3 v1 v2 v3
  go_wp2_with fail
  refine (within_any l2 l1 ba aa bc ac w3 _ _ rfl rfl hlB hlA (HB.out.below HB3.out) (HA.out.below HB3.out)).mono ?_
  rintro e w4 ⟨rfl, hb4⟩
  have u1 := cell_later hb4 u1'
  have u2 := cell_later hb4 u2'
  have u3 := cell_later hb4 u3'
  have v1 := cell_later hb4 v1'
  have v2 := cell_later hb4 v2'
  have v3 := cell_later hb4 v3'
  have HB4 := Lib.hid (belowCall HB3.out hb4)
  clear hb4 u1' u2' u3' v1' v2' v3' HA HB
  have hlen : ((l1.length : Int) == (l2.length : Int)) = decide (l1.length = l2.length) := by
    by_cases hq : l1.length = l2.length
    · simp [hq]
    · rw [decide_eq_false hq, beq_eq_false_iff_ne]; omega
  obtain ⟨dl, hdl⟩ : ∃ z, z = decide (l1.length = l2.length) := ⟨_, rfl⟩
  rw [← hdl] at hlen HN
  obtain ⟨a1, ha1⟩ : ∃ z, z = allIn l1 l2 := ⟨_, rfl⟩
  obtain ⟨a2, ha2⟩ : ∃ z, z = allIn l2 l1 := ⟨_, rfl⟩
  rw [← ha1, ← ha2] at HN ⊢
  clear hdl ha1 ha2
  cases hs : (sp1 == sp2) <;> cases hn : (n1.toList == n2.toList) <;> cases a1 <;> cases a2
  all_goals
    rw [hs, hn] at HN
    go_wp2_with fail
    go_ret
    exact ⟨ret_bool (by rw [HN.out]; simp), HB4.out⟩

section
variable {w0 w w' : World} {B B' rb sb lb : Nat} {ex : Nat → Prop} {T T' : TreeD} {l l' ent ent' : List Int} {on on' : Bool}
theorem LD.att (h : LD w0 B rb sb lb ex T l ent on w) : ∀ d ∈ T.nodes, d.attrs.length ≤ 1048576 := by
  obtain ⟨ge, h1, h2, h3⟩ := h
  exact h2.att
theorem LD.ref (h : LD w0 B rb sb lb ex T l ent on w) : ∃ gn gk far, RefO w rb gn gk (farW far T) := by
  obtain ⟨ge, h1, h2, h3⟩ := h
  exact h2.ref
theorem from_ld (h : LD w0 B rb sb lb ex T l ent on w) : Calls Tryz.prog 68 #[.pointer (some ⟨lb, 0, none⟩)] w fun e w' => e = .returned (.int .i64 (rfind ent (-1) + 1)) ∧ w = w' := by
  obtain ⟨ge, h1, h2, h3, h4⟩ := h
  exact ldo_from w lb rb sb ge ent on h1 (by omega)
theorem at_ld (h : LD w0 B rb sb lb ex T l ent on w) (n : Int) : Calls Tryz.prog 62 #[.pointer (some ⟨lb, 0, none⟩), .int .i64 n] w fun e w' => e = .returned (.int .i64 (rfind ent n)) ∧ w = w' := by
  obtain ⟨ge, h1, h2, h3, h4⟩ := h
  exact ldo_at w lb rb sb ge ent on h1 n (by omega)
theorem dHas_ld (h : LD w0 B rb sb lb ex T l ent on w) (n : Int) : Calls Tryz.prog 71 #[.pointer (some ⟨lb, 0, none⟩), .int .i64 n] w fun e w' => e = .returned (.bool (decide (0 ≤ rfind ent n))) ∧ w = w' := by
  obtain ⟨ge, h1, h2, h3, h4⟩ := h
  exact ldo_has w lb rb sb ge ent on h1 n (by omega)
theorem without_ld (h : LD w0 B rb sb lb ex T l ent on w) (p : Int) : Calls Tryz.prog 96 #[.pointer (some ⟨lb, 0, none⟩), .int .i64 p] w fun e w' => e = .returned (.tuple #[]) ∧ LD w0 B rb sb lb ex T l (dropF ent p) on w' ∧ Keeps (Own w0 ex) w w' := by
  obtain ⟨ge, h1, h2, h3, h4⟩ := h
  refine (ldo_without w lb rb sb ge ent on h1 p (by omega)).mono ?_
  rintro e w' ⟨he, ge', hs, hg, hk⟩
  exact ⟨he, LD.lst_step h2 h3 (Nat.le_trans (dropF_len _ _) h4) hs hk hg⟩
theorem dRemove_ld (h : LD w0 B rb sb lb ex T l ent on w) (n : Int) : Calls Tryz.prog 65 #[.pointer (some ⟨lb, 0, none⟩), .int .i64 n] w fun e w' => e = .returned (.tuple #[]) ∧ LD w0 B rb sb lb ex T l (rmF ent n) on w' ∧ Keeps (Own w0 ex) w w' := by
  obtain ⟨ge, h1, h2, h3, h4⟩ := h
  refine (ldo_remove w lb rb sb ge ent on h1 n (by omega)).mono ?_
  rintro e w' ⟨he, ge', hs, hg, hk⟩
  exact ⟨he, LD.lst_step h2 h3 (Nat.le_trans (dropF_len _ _) h4) hs hk hg⟩
theorem dMark_ld (h : LD w0 B rb sb lb ex T l ent on w) (hle : ent.length < 1000000) : Calls Tryz.prog 28 #[.pointer (some ⟨lb, 0, none⟩)] w fun e w' => e = .returned (.tuple #[]) ∧ LD w0 B rb sb lb ex T l (ent ++ [-1]) on w' ∧ Keeps (Own w0 ex) w w' := by
  obtain ⟨ge, h1, h2, h3, h4⟩ := h
  refine (ldo_mark w lb rb sb ge ent on h1 (by omega)).mono ?_
  rintro e w' ⟨he, ge', hs, hg, hk⟩
  exact ⟨he, LD.lst_step h2 h3 (by rw [List.length_append, List.length_singleton]; omega) hs hk hg⟩
theorem dClear_ld (h : LD w0 B rb sb lb ex T l ent on w) : Calls Tryz.prog 30 #[.pointer (some ⟨lb, 0, none⟩)] w fun e w' => e = .returned (.tuple #[]) ∧ LD w0 B rb sb lb ex T l (clearF ent) on w' ∧ Keeps (Own w0 ex) w w' := by
  obtain ⟨ge, h1, h2, h3, h4⟩ := h
  refine (ldo_clear w lb rb sb ge ent on h1 h4).mono ?_
  rintro e w' ⟨he, ge', hs, hg, hk⟩
  exact ⟨he, LD.lst_step h2 h3 (by rw [clearF, List.length_take]; omega) hs hk hg⟩
theorem alike_ld (h : LD w0 B rb sb lb ex T l ent on w) (x y : Int) (hx : elemF T x = true) (hy : elemF T y = true) :
    Calls Tryz.prog 95 #[.pointer (some ⟨lb, 0, none⟩), .int .i64 x, .int .i64 y] w fun e w' => e = .returned (.bool (likeQ T x y)) ∧ Below w.heap.size w w' := by
  obtain ⟨gn, gk, far, hR⟩ := h.ref
  have hat := h.att
  obtain ⟨ge, h1⟩ := h.lst
  exact alike_any (farW far T) w lb rb sb gn gk ge ent on h1 hR hat x y hx hy

def ixI (l : List Nat) : List Int := l.map (fun i : Nat => (i : Int))
theorem ixI_snoc (l : List Nat) (k : Nat) : ixI (l ++ [k]) = ixI l ++ [(k : Int)] := by simp [ixI]
theorem ixI_len (l : List Nat) : (ixI l).length = l.length := by simp [ixI]
theorem ixI_first (l : List Nat) (h : 0 < l.length) : (ixI l)[0]'(by rw [ixI_len]; exact h) = firstI l := by
  cases l with
  | nil => simp at h
  | cons i r => rfl

set_option maxRecDepth 100000 in
set_option maxHeartbeats 8000000 in
theorem dPush_ld (h : LD w0 B rb sb lb ex T l ent on w) (hle0 : ent.length < 1000000) (n : Int) (hen : ∀ i (hi : i < ent.length), handF ent ≤ i → elemF T ent[i] = true) (hn : elemF T n = true) :
    Calls Tryz.prog 57 #[.pointer (some ⟨lb, 0, none⟩), .int .i64 n] w fun e w' => e = .returned (.tuple #[]) ∧ LD w0 B rb sb lb ex T l (pushF T ent n) on w' ∧ Keeps (Own w0 ex) w w' := by
  have HH := Lib.hid (from_ld h)
  obtain ⟨hh1, hh2⟩ := handF_le ent
  rw [← hh1] at HH
  have HP : Hid (pushF T ent n = (if 3 ≤ (ixs T n ent (handF ent) ent.length).length then dropF ent (firstI (ixs T n ent (handF ent) ent.length)) else ent) ++ [n]) := Lib.hid rfl
  have HEN := Lib.hid hen
  clear hen
  generalize handF ent = hd at *
  obtain ⟨sa, sc, _, _, c2, _, hA, hcm, hcl⟩ := h.cells
  unfold maxLen at hcm
  have HA := Lib.hid hA
  have HL := Lib.hid h
  have HIS := Lib.hid (ixs_start T n ent hd)
  obtain ⟨i0, hi, hz0, hz1, hz2⟩ := info_parts stk_int
  clear h hA hh1
  go_enter Tryz.func57, Tryz.ntmps57
  go_wp2_with (go_at_call 68; go_must (refine HH.out.mono ?_; rintro e w1 ⟨rfl, rfl⟩))
  go_loopw [4, 5] (fun v i wr => ∃ (k : Nat) (y : Value), y = v ∧ hd ≤ k ∧ k ≤ ent.length ∧ i = .int .i64 k ∧ wr.ownsRow w.heap.size 3 1 y (ixI (ixs T n ent hd k)).length (intsV (ixI (ixs T n ent hd k))) ∧ Below w.heap.size w wr) (fun _ i _ => ent.length - (intOf i).toNat)
  case atStart =>
    refine ⟨hd, _, rfl, Nat.le_refl _, hh2, rfl, ?_, Below.refl _ _⟩
    rw [HIS.out]
    exact World.ownsRow_nil _ _ _ _
  case round =>
    obtain ⟨k, v, rfl, hk1, hk2, rfl, ho, hbr⟩ := hrel
    have HBr := Lib.hid hbr
    have HO := Lib.hid ho
    have d2 := cell_later hbr c2
    have hil : (ixI (ixs T n ent hd k)).length ≤ k := by
      have := List.length_filter_le (fun i => decide (hd ≤ i) && likeQ T (ent.getD i 0) n) (List.range k)
      rw [List.length_range] at this
      rw [ixI_len]
      exact this
    by_cases hlt : k < ent.length
    · obtain ⟨b, o, rfl, e1⟩ := (HA.out.below hbr) _ _ (intsV_get ent k hlt)
      have HLk := Lib.hid (alike_ld (HL.out.world hbr) ent[k] n (HEN.out k hlt hk1) hn)
      have HST := Lib.hid (ixs_step T n ent hd k hlt hk1)
      obtain ⟨x, hx⟩ : ∃ x, x = ent[k] := ⟨_, rfl⟩
      rw [← hx] at e1 HLk HST
      clear hx hbr ho
      cases hq : likeQ T x n
      · rw [hq] at HLk HST
        go_wp2_with (go_at_call 95; go_must (refine HLk.out.mono ?_; rintro e w2 ⟨rfl, hb2⟩; have HB2 := Lib.hid (belowCall HBr.out hb2); have HO2 := Lib.hid (own_below HO.out hb2); clear hb2))
        go_roundw
        case rel => exact ⟨k + 1, _, rfl, by omega, by omega, by go_num, by rw [HST.out]; simp only [Bool.false_eq_true, if_false, List.append_nil]; exact HO2.out, HB2.out⟩
        case measure => simp [intOf]; omega
      · rw [hq, if_pos rfl] at HST
        rw [hq] at HLk
        have HI1 : Hid (ixI (ixs T n ent hd (k + 1)) = ixI (ixs T n ent hd k) ++ [(k : Int)]) := Lib.hid (by rw [HST.out, ixI_snoc])
        generalize ixI (ixs T n ent hd k) = M at *
        have b1 : M.length + 1 ≤ maxLen := by unfold maxLen; omega
        have b2 : (M.length + 1) * 8 ≤ 140737488355328 := by omega
        go_wp2_with (first
          | (go_at_call 95; go_must (refine HLk.out.mono ?_; rintro e w2 ⟨rfl, hb2⟩; have HB2 := Lib.hid (belowCall HBr.out hb2); have HO2 := Lib.hid (own_below HO.out hb2); clear hb2; have HQ := Lib.hid (HO2.out.alloc (.cells #[.int .i64 (k : Int)] 3)); have HZ2 := Lib.hid (show w.heap.size ≤ (w2.alloc (.cells #[.int .i64 (k : Int)] 3)).heap.size from by have := HB2.out.size; simp; omega)))
          | (at_builtin; (refine wpList_append_slice _ rfl _ _ 30 rfl w.heap.size 3 i0 _ 1 8 Tryz.underlying30 hi hz0 hz1 hz2 rfl (by decide) _ M.length (intsV M) rfl HQ.out (some ⟨w2.heap.size, 0, none⟩) 1 1 (intsV [(k : Int)]) rfl rfl (fun h => by cases h) (at_alloc rfl rfl) (intsV_one _) b1 b2 HZ2.out ?_; intro v3 w3 hown3 hgr3; have HO3 := Lib.hid hown3; have HB3 := Lib.hid ((HB2.out.alloc HB2.out.size _).grown hgr3 HZ2.out (fun b hb => (HQ.out.lt b hb).1)); clear hown3 hgr3)))
        go_roundw
        case rel => exact ⟨k + 1, _, rfl, by omega, by omega, by go_num, by rw [HI1.out, intsV_append, List.length_append]; exact HO3.out, HB3.out⟩
        case measure => simp [intOf]; omega
    · obtain rfl : k = ent.length := by omega
      have HLr := Lib.hid (HL.out.world hbr)
      clear hbr ho
      obtain ⟨IX, hIX⟩ : ∃ IX, IX = ixs T n ent hd ent.length := ⟨_, rfl⟩
      rw [← hIX] at HP HO hil
      obtain ⟨av, cv, rfl, _, _⟩ := own_slice HO.out
      clear hIX
      go_upto_if 35 with fail
      go_cut [] from 33 to 40 (fun wx => ∃ ent3, ent3.length < 1000000 ∧ Hid (pushF T ent n = ent3 ++ [n]) ∧ Hid (LD w0 B rb sb lb ex T l ent3 on wx) ∧ Hid (Keeps (Own w0 ex) w wx))
      case first =>
        by_cases h3 : 3 ≤ (ixI IX).length
        · have h3' : 3 ≤ IX.length := by rw [← ixI_len]; exact h3
          have hx0 := ixI_first IX (by omega)
          obtain ⟨g1, m1, hse, _, hm1, hm2⟩ := own_some HO.out (by omega)
          injection hse with hse1 _ hse3
          subst hse1 hse3
          have e0 := (own_row HO.out).cell (intsV_get (ixI IX) 0 (by omega))
          rw [hx0] at e0
          have HD := Lib.hid (without_ld HLr.out (firstI IX))
          have HP3 : Hid (pushF T ent n = dropF ent (firstI IX) ++ [n]) := Lib.hid (by rw [HP.out, if_pos h3'])
          have HLE : Hid ((dropF ent (firstI IX)).length ≤ ent.length) := Lib.hid (dropF_len _ _)
          clear hx0 h3'
          generalize dropF ent (firstI IX) = ent3 at *
          generalize firstI IX = f1 at *
          generalize (ixI IX).length = ml at *
          go_wp2_with (go_at_call 96; go_must (refine HD.out.mono ?_; rintro e w2 ⟨rfl, h2, k2⟩; have H2 := Lib.hid h2; have K2 := Lib.hid k2; clear h2 k2))
          go_meet
          exact ⟨ent3, (by have := HLE.out; omega), HP3, H2, Lib.hid ((Keeps.ofBelow HBr.out).trans K2.out)⟩
        · have HP3 : Hid (pushF T ent n = ent ++ [n]) := Lib.hid (by rw [HP.out, if_neg (by rw [← ixI_len]; exact h3)])
          generalize (ixI IX).length = ml at *
          go_wp2_with fail
          go_meet
          exact ⟨ent, hle0, HP3, HLr, Lib.hid (Keeps.ofBelow HBr.out)⟩
      case rest =>
      obtain ⟨ent3, hl3, HP3, HL3, HKE⟩ := hcut
      obtain ⟨ge, h1, h2, h3, h4⟩ := HL3.out
      obtain ⟨w3, hw3⟩ : ∃ w3 : World, w3 = wc := ⟨_, rfl⟩
      subst hw3
      clear HL HLr HH HA c2 d2 HBr HP HO HEN
      have hlt := h1.lt lb (.inl rfl)
      obtain ⟨a, c, c0, c1, c2, c3, hat, hown, f2, _, _, hc0, _⟩ := h1.cells
      have HK := Lib.hid (hat.below ((Below.refl _ _).alloc (Nat.le_refl _) (.cells #[] 3)))
      have HE : Hid ((w3.alloc (.cells #[] 3)).ownsRow w3.heap.size 3 1 (.slice (some ⟨w3.heap.size, 0, none⟩) 0 0) 0 []) := World.ownsRow_lit w3 #[] 0 (Nat.le_refl _) (Nat.zero_le _) rfl
      have H3 := Lib.hid hc0
      have b0 : 0 + ent3.length ≤ maxLen := by unfold maxLen; omega
      have b1 : (0 + ent3.length) * 8 ≤ 140737488355328 := by omega
      have b2 : ent3.length + 1 ≤ maxLen := by unfold maxLen; omega
      have b3 : (ent3.length + 1) * 8 ≤ 140737488355328 := by omega
      have HNL := Lib.hid (show (intsV ent3).length = ent3.length * 1 by rw [intsV_length, Nat.mul_one])
      have HZ : Hid (w3.heap.size ≤ (w3.alloc (.cells #[] 3)).heap.size) := by show _ ≤ _; simp
      have HS := Lib.hid h1
      have HH2 := Lib.hid h2
      have HH3 := Lib.hid h3
      clear hat hown hc0 h1 h2 h3
      go_wp2_with (first
        | (at_builtin; (refine wpList_append_slice _ rfl (.tmp 42) (.tmp 46) 30 rfl w3.heap.size 3 i0 _ 1 8 Tryz.underlying30 hi hz0 hz1 hz2 rfl (by decide) _ 0 [] rfl HE.out a ent3.length c (intsV ent3) rfl HNL.out H3.out HK.out (intsV_one ent3) b0 b1 HZ.out ?_; intro v2 w2 hown2 hgr2; simp only [Nat.zero_add, List.nil_append] at hown2; have HO2 := Lib.hid hown2; have HB2 := Lib.hid (((Below.refl _ _).alloc (Nat.le_refl _) _).grown hgr2 HZ.out (fun b h => (HE.out.lt b h).1)); clear hown2 hgr2; have HQ2 := Lib.hid (HO2.out.alloc (.cells #[.int .i64 n] 3)); have HZ2 := Lib.hid (show w3.heap.size ≤ (w2.alloc (.cells #[.int .i64 n] 3)).heap.size from by have := HB2.out.size; simp; omega)))
        | (at_builtin; (refine wpList_append_slice _ rfl (.tmp 47) (.tmp 49) 30 rfl w3.heap.size 3 i0 _ 1 8 Tryz.underlying30 hi hz0 hz1 hz2 rfl (by decide) _ ent3.length (intsV ent3) rfl HQ2.out (some ⟨w2.heap.size, 0, none⟩) 1 1 (intsV [n]) rfl rfl (fun h => by cases h) (at_alloc rfl rfl) (intsV_one _) b2 b3 HZ2.out ?_; intro v4 w4 hown4 hgr4; obtain ⟨a4, c4, rfl, _, _, _, _⟩ := own_at hown4; have HB4 := Lib.hid ((HB2.out.alloc HB2.out.size _).grown hgr4 HZ2.out (fun b hb => (HQ2.out.lt b hb).1)); have HO4 := Lib.hid hown4; have c2' := cell_later HB4.out c2; have f2' := (HB4.out.frozen (p := ⟨lb, 2, none⟩) hlt).trans f2; clear hown4 hgr4)))
      obtain ⟨hL, hL2⟩ := (HS.out.below HB4.out).lay (l' := ent3 ++ [n]) (n := ent3.length + 1) (by simp) (by rw [intsV_append]; exact HO4.out) hlt
      have HFIN := LD.lst_step HH2.out HH3.out (by rw [List.length_append, List.length_singleton]; omega) hL ((Keeps.ofBelow (F := SB lb ge) HB4.out).set (p := ⟨lb, 2, none⟩) (.inl (.inl rfl)) _) (fun k hk => .inr (hL2 k hk))
      go_end0
      rw [HP3.out]
      exact ⟨rfl, HFIN.1, HKE.out.trans HFIN.2⟩

theorem keepL3 {u u' : World} {lb sb b o : Nat} {v x : Value} (hb : Below u.heap.size u u') (h : u.cell? ⟨lb, 1, none⟩ = some (.pointer (some ⟨sb, 0, none⟩)) ∧ u.cell? ⟨lb, 2, none⟩ = some v ∧ u.cell? ⟨b, o, none⟩ = some x) :
    u'.cell? ⟨lb, 1, none⟩ = some (.pointer (some ⟨sb, 0, none⟩)) ∧ u'.cell? ⟨lb, 2, none⟩ = some v ∧ u'.cell? ⟨b, o, none⟩ = some x :=
  ⟨cell_later hb h.1, cell_later hb h.2.1, cell_later hb h.2.2⟩
theorem dnamed1_ld (h : LD w0 B rb sb lb ex T l ent on w) (n : Int) (x : ByteArray) :
    Calls Tryz.prog 61 #[.pointer (some ⟨sb, 0, none⟩), .int .i64 n, .slice (some ⟨w.heap.size, 0, none⟩) 1 1] (w.alloc (.cells #[.string x] 9)) fun e w' => e = .returned (.bool (namedF T n [x])) ∧ Below w.heap.size w w' := by
  have hb := (Below.refl w.heap.size w).alloc (Nat.le_refl _) (.cells #[.string x] 9)
  exact (dnamed_ld (h.world hb) n [x] (some ⟨w.heap.size, 0, none⟩) 1 (at_alloc rfl rfl) (by simp)).mono fun e w' ⟨he, hb'⟩ => ⟨he, belowCall hb hb'⟩

set_option maxRecDepth 100000 in
set_option maxHeartbeats 4000000 in
theorem dFindN_ld (h : LD w0 B rb sb lb ex T l ent on w) (name : ByteArray) :
    Calls Tryz.prog 35 #[.pointer (some ⟨lb, 0, none⟩), .string name] w fun e w' => e = .returned (.int .i64 (findF T ent name)) ∧ Below w.heap.size w w' := by
  have HH := Lib.hid (from_ld h)
  obtain ⟨hh1, hh2⟩ := handF_le ent
  rw [← hh1] at HH
  have HP : Hid (findF T ent name = findR T name (ent.drop (handF ent)).reverse) := Lib.hid rfl
  generalize handF ent = hd at *
  obtain ⟨sa, sc, _, c1, c2, _, hA, hcm, hcl⟩ := h.cells
  unfold maxLen at hcm
  have HA := Lib.hid hA
  have HL := Lib.hid h
  have HZ := Lib.hid (show findR T name ((ent.take hd).drop hd).reverse = 0 from by rw [List.drop_of_length_le (by rw [List.length_take]; omega)]; rfl)
  clear h hA hh1
  go_enter Tryz.func35, Tryz.ntmps35
  go_wp2_with (go_at_call 68; go_must (refine HH.out.mono ?_; rintro e w1 ⟨rfl, rfl⟩))
  go_loopw [5, 6] (fun o i wr => ∃ (k : Nat) (y : Int), hd ≤ k ∧ k ≤ ent.length ∧ i = .int .i64 k ∧ o = .int .i64 y ∧ Below w.heap.size w wr ∧ y = findR T name ((ent.take k).drop hd).reverse) (fun _ i _ => ent.length - (intOf i).toNat)
  case atStart => exact ⟨hd, 0, Nat.le_refl _, hh2, rfl, rfl, Below.refl _ _, HZ.out.symm⟩
  case round =>
    obtain ⟨k, y, hk1, hk2, rfl, rfl, hbr, hv⟩ := hrel
    have HBr := Lib.hid hbr
    have HV := Lib.hid hv
    have d1 := cell_later hbr c1
    have d2 := cell_later hbr c2
    clear hv
    by_cases hlt : k < ent.length
    · obtain ⟨b, o, rfl, e1⟩ := (HA.out.below hbr) _ _ (intsV_get ent k hlt)
      have HN := Lib.hid (dnamed1_ld (HL.out.world (hbr.drew)) ent[k] name)
      have HST := Lib.hid (findR_step T name ent hd k hlt hk1)
      obtain ⟨x, hx⟩ : ∃ x, x = ent[k] := ⟨_, rfl⟩
      rw [← hx] at e1 HN HST
      clear hx
      have q1 : wr.drew.cell? ⟨lb, 1, none⟩ = some (.pointer (some ⟨sb, 0, none⟩)) := d1
      have q2 : wr.drew.cell? ⟨lb, 2, none⟩ = some (.slice (some ⟨b, o, none⟩) ent.length sc) := d2
      have qx : wr.drew.cell? ⟨b, o + k, none⟩ = some (.int .i64 x) := e1
      have HBA := Lib.hid ((Below.refl wr.drew.heap.size wr.drew).alloc (Nat.le_refl _) (.cells #[.string name] 9))
      have HBD := Lib.hid hbr.drew
      clear hbr
      cases hq : namedF T x [name]
      all_goals
        rw [hq] at HN HST
        go_wp2_with fail
        go_region_held3 (fun u => u.cell? ⟨lb, 1, none⟩ = some (.pointer (some ⟨sb, 0, none⟩)) ∧ u.cell? ⟨lb, 2, none⟩ = some (.slice (some ⟨b, o, none⟩) ent.length sc) ∧ u.cell? ⟨b, o + k, none⟩ = some (.int .i64 x))
          (first | exact ⟨q1, q2, qx⟩ | with_reducible exact keepL3 HB2.out ⟨q1, q2, qx⟩ | with_reducible exact keepL3 HBA.out ⟨q1, q2, qx⟩)
          (first | (go_at_call 61; go_must (refine HN.out.mono ?_; rintro e w2 ⟨rfl, hb2⟩; have HB2 := Lib.hid hb2; clear hb2)))
        have k1 := cell_later HB2.out q1
        have k2 := cell_later HB2.out q2
        have kx := cell_later HB2.out qx
        have HB3 := Lib.hid (belowCall HBD.out HB2.out)
        go_wp2_with fail
      · go_roundw
        case rel => exact ⟨k + 1, y, by omega, by omega, by go_num, rfl, HB3.out, by rw [HST.out, HV.out]; rfl⟩
        case measure => simp [intOf]; omega
      · go_roundw
        case rel => exact ⟨k + 1, x, by omega, by omega, by go_num, rfl, HB3.out, by rw [HST.out]; rfl⟩
        case measure => simp [intOf]; omega
    · obtain rfl : k = ent.length := by omega
      have HE := Lib.hid (show y = findR T name (ent.drop hd).reverse from by rw [HV.out, List.take_of_length_le (Nat.le_refl _)])
      clear hbr
      go_wp2_with fail
      go_ret
      exact ⟨ret_int (by rw [HP.out, HE.out]), HBr.out⟩
end
end Go.Proofs.YtclflmjpdglgiaaGreat
