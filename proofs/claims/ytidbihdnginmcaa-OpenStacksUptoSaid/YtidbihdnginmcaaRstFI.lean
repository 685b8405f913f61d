import Derived.Test.YtidbihdnginmcaaRfQQ
import Derived.Test.YtidbihdnginmcaaRstC
import Derived.Test.YtidbihdnginmcaaRstE
import Derived.Test.YtidbihdnginmcaaStkDG
/-
  The document's tree and its open elements side by side, through a law's calls; and Until. (Beside them blocks of other things may lie, that are left alone.)
-/
namespace Go.Proofs.Ytidbihdnginmcaa
open Go.RowKit Mem

def RSI (w0 : World) (B rb sb : Nat) (ex : Nat → Prop) (T : TreeD) (l : List Int) (w : World) : Prop :=
  ∃ gn gk gs far, RIo w0 B rb ex T w gn gk far ∧ RstO w sb rb gs l ∧ (∀ k, SB sb gs k → far k ∧ w0.heap.size ≤ k ∧ ¬ ex k) ∧ l.length ≤ 1000000

section
variable {w0 w w' : World} {B rb sb : Nat} {ex : Nat → Prop} {T : TreeD} {l l' : List Int}
theorem RSI.short (h : RSI w0 B rb sb ex T l w) : l.length ≤ 1000000 := by
  obtain ⟨_, _, _, _, _, _, _, h⟩ := h
  exact h
theorem RSI.below (h : RSI w0 B rb sb ex T l w) : Below w0.heap.size w0 w := by
  obtain ⟨_, _, _, _, h, _⟩ := h
  exact h.below
theorem RSI.exlt (h : RSI w0 B rb sb ex T l w) : ∀ k, ex k → k < w.heap.size := by
  obtain ⟨_, _, _, _, h, _⟩ := h
  exact fun k hk => (h.tree.faravoid k (h.exf k hk)).1
theorem RSI.cells (h : RSI w0 B rb sb ex T l w) : ∃ a c, w.cell? ⟨sb, 0, none⟩ = some (.pointer (some ⟨rb, 0, none⟩)) ∧ w.cell? ⟨sb, 1, none⟩ = some (.slice a l.length c) ∧ At w a (intsV l) := by
  obtain ⟨_, _, _, _, _, h, _⟩ := h
  obtain ⟨a, c, h1, h2, h3, _⟩ := h.cells
  exact ⟨a, c, h1, h2, h3⟩
theorem RSI.foreign {ex' F : Nat → Prop} (h : RSI w0 B rb sb ex T l w) (hk : Keeps F w w') (hF : ∀ k, k < w.heap.size → F k → ex k ∧ w0.heap.size ≤ k) (he : ∀ k, ex' k → (ex k ∨ w.heap.size ≤ k) ∧ k < w'.heap.size) : RSI w0 B rb sb ex' T l w' := by
  obtain ⟨gn, gk, gs, far, h, hs, h3, h4⟩ := h
  have hk2 : Keeps (fun k => F k ∧ k < w.heap.size) w w' := hk.mono fun k hk hx => ⟨hx, hk⟩
  have hlt := hs.lt
  have hT := h.tree.foreign (far' := fun k => far k ∨ ex' k) hk2 (fun k hx => h.exf k (hF k hx.2 hx.1).1) fun k hx => by
    rcases hx with hx | hx
    · exact ⟨.inl hx, Nat.lt_of_lt_of_le (h.tree.faravoid k hx).1 hk.size⟩
    · exact ⟨(he k hx).1.imp (h.exf k) id, (he k hx).2⟩
  refine ⟨gn, gk, gs, _, ⟨hT, h.wf, h.below.trans (hk2.below (fun k hk' hx => by have := (hF k hx.2 hx.1).2; omega) h.below.size), h.own, fun k hk => .inr hk, h.len, h.most, h.att, h.txt⟩, hs.kept hk2 fun k hk' hx => (h3 k hk').2.2 (hF k hx.2 hx.1).1, fun k hk' => ?_, h4⟩
  obtain ⟨q1, q2, q3⟩ := h3 k hk'
  refine ⟨.inl q1, q2, fun hx => ?_⟩
  rcases (he k hx).1 with e | e
  · exact q3 e
  · have := hlt k hk'; omega
theorem RSI.world (h : RSI w0 B rb sb ex T l w) (hb : Below w.heap.size w w') : RSI w0 B rb sb ex T l w' :=
  h.foreign (F := fun _ => False) (Keeps.ofBelow hb) (fun _ _ h => h.elim) fun k hk => ⟨.inl hk, Nat.lt_of_lt_of_le (h.exlt k hk) hb.size⟩
theorem rsi_step {gn gk : Nat} {gs gs' : Option Nat} {far : Nat → Prop} (h1 : RIo w0 B rb ex T w gn gk far) (h3 : ∀ k, SB sb gs k → far k ∧ w0.heap.size ≤ k ∧ ¬ ex k) (h5 : l'.length ≤ 1000000)
    (hk : Keeps (SB sb gs) w w') (hs : RstO w' sb rb gs' l') (hg : ∀ k, gs' = some k → gs = some k ∨ w.heap.size ≤ k) : RSI w0 B rb sb ex T l' w' ∧ Keeps (Own w0 ex) w w' := by
  have hlt := hs.lt
  have hT := h1.tree.foreign (far' := fun k => far k ∨ SB sb gs' k) hk (fun k hk' => (h3 k hk').1) (fun k hk' => by
    rcases hk' with hk' | hk'
    · exact ⟨.inl hk', Nat.lt_of_lt_of_le (h1.tree.faravoid k hk').1 hk.size⟩
    · refine ⟨?_, hlt k hk'⟩
      rcases hk' with e | e
      · exact .inl (h3 k (.inl e)).1
      · exact (hg k e).imp (fun e => (h3 k (.inr e)).1) id)
  refine ⟨⟨gn, gk, gs', _, ⟨hT, h1.wf, h1.below.trans (hk.below (fun k hk' hx => by have := (h3 k hx).2.1; omega) h1.below.size), h1.own, fun k hk => .inl (h1.exf k hk), h1.len, h1.most, h1.att, h1.txt⟩, hs, ?_, h5⟩, hk.mono fun k _ hk' => (h3 k hk').2⟩
  intro k hk'
  refine ⟨.inr hk', ?_⟩
  rcases hk' with e | e
  · exact (h3 k (.inl e)).2
  · rcases hg k e with e' | e'
    · exact (h3 k (.inr e')).2
    · have hs := h1.below.size
      refine ⟨by omega, fun hx => ?_⟩
      have := (h1.tree.faravoid k (h1.exf k hx)).1
      omega

theorem Find_rs (h : RSI w0 B rb sb ex T l w) (n : Int) : Calls Try.prog 83 #[.pointer (some ⟨sb, 0, none⟩), .int .i64 n] w fun e w' => e = .returned (.int .i64 (rfind l n)) ∧ w = w' := by
  obtain ⟨_, _, gs, _, _, h, _, hl⟩ := h
  exact rst_find w sb rb gs l h n (by omega)
theorem Top_rs (h : RSI w0 B rb sb ex T l w) : Calls Try.prog 34 #[.pointer (some ⟨sb, 0, none⟩)] w fun e w' => e = .returned (.int .i64 (l.getLast?.getD 0)) ∧ ∃ q, w' = w.drewN q := by
  obtain ⟨_, _, gs, _, _, h, _, hl⟩ := h
  exact rst_top w sb rb gs l h (by omega)
theorem named_rs (h : RSI w0 B rb sb ex T l w) (n : Int) (names : List ByteArray) (a : Option Addr) (c : Nat) (ha : At w a (strsV names)) (hl : names.length ≤ 1048576) :
    Calls Try.prog 101 #[.pointer (some ⟨sb, 0, none⟩), .int .i64 n, .slice a names.length c] w fun e w' => e = .returned (.bool (namedF T n names)) ∧ Below w.heap.size w w' := by
  obtain ⟨gn, gk, gs, far, h1, h, _, _⟩ := h
  exact rst_named (farW far T) w sb rb gn gk gs l h h1.tree n names a c _ rfl ha hl
theorem Has_rs (h : RSI w0 B rb sb ex T l w) (scope : Int) (names : List ByteArray) (a : Option Addr) (c : Nat) (ha : At w a (strsV names)) (hn : names.length ≤ 1048576) :
    Calls Try.prog 80 #[.pointer (some ⟨sb, 0, none⟩), .int .i64 scope, .slice a names.length c] w fun e w' => e = .returned (.bool (hasF T l scope names)) ∧ Below w.heap.size w w' := by
  obtain ⟨gn, gk, gs, far, h1, h, _, hl⟩ := h
  exact rst_has (farW far T) w sb rb gn gk gs l h h1.tree (by omega) scope names a c _ rfl ha hn
theorem HasNode_rs (h : RSI w0 B rb sb ex T l w) (m : Int) :
    Calls Try.prog 81 #[.pointer (some ⟨sb, 0, none⟩), .int .i64 m] w fun e w' => e = .returned (.bool (hasNodeF T l m)) ∧ Below w.heap.size w w' := by
  obtain ⟨gn, gk, gs, far, h1, h, _, hl⟩ := h
  exact rst_hasnode (farW far T) w sb rb gn gk gs l h h1.tree (by omega) m
theorem Pop_rs (h : RSI w0 B rb sb ex T l w) :
    Calls Try.prog 68 #[.pointer (some ⟨sb, 0, none⟩)] w fun e w' => e = .returned (.int .i64 (l.getLast?.getD 0)) ∧ RSI w0 B rb sb ex T l.dropLast w' ∧ Keeps (Own w0 ex) w w' := by
  obtain ⟨gn, gk, gs, far, h1, h, h3, hl⟩ := h
  refine (rst_pop w sb rb gs l h (by omega)).mono ?_
  rintro e w' ⟨he, gs', hs, hg, hk⟩
  exact ⟨he, rsi_step h1 h3 (by rw [List.length_dropLast]; omega) hk hs hg⟩
theorem Remove_rs (h : RSI w0 B rb sb ex T l w) (n : Int) :
    Calls Try.prog 70 #[.pointer (some ⟨sb, 0, none⟩), .int .i64 n] w fun e w' => e = .returned (.tuple #[]) ∧ RSI w0 B rb sb ex T (rmF l n) w' ∧ Keeps (Own w0 ex) w w' := by
  obtain ⟨gn, gk, gs, far, h1, h, h3, hl⟩ := h
  refine (rst_remove w sb rb gs l h n (by omega)).mono ?_
  rintro e w' ⟨he, gs', hs, hg, hk⟩
  exact ⟨he, rsi_step h1 h3 (Nat.le_trans (dropF_len _ _) hl) hk hs hg⟩
theorem Swap_rs (h : RSI w0 B rb sb ex T l w) (o n : Int) :
    Calls Try.prog 72 #[.pointer (some ⟨sb, 0, none⟩), .int .i64 o, .int .i64 n] w fun e w' => e = .returned (.tuple #[]) ∧ RSI w0 B rb sb ex T (swapF l o n) w' ∧ Keeps (Own w0 ex) w w' := by
  obtain ⟨gn, gk, gs, far, h1, h, h3, hl⟩ := h
  refine (rst_swap w sb rb gs l h o n (by omega)).mono ?_
  rintro e w' ⟨he, hs, hk⟩
  exact ⟨he, rsi_step h1 h3 (by unfold swapF; split <;> simp [hl]) hk hs fun k hk => .inl hk⟩
theorem Insert_rs (h : RSI w0 B rb sb ex T l w) (b n : Int) (hlt : l.length < 1000000) :
    Calls Try.prog 74 #[.pointer (some ⟨sb, 0, none⟩), .int .i64 b, .int .i64 n] w fun e w' => e = .returned (.tuple #[]) ∧ RSI w0 B rb sb ex T (insF l b n) w' ∧ Keeps (Own w0 ex) w w' := by
  obtain ⟨gn, gk, gs, far, h1, h, h3, hl⟩ := h
  refine (rst_insert w sb rb gs l h b n (by omega)).mono ?_
  rintro e w' ⟨he, gs', hs, hg, hk⟩
  exact ⟨he, rsi_step h1 h3 (by rw [← insK_end]; have := insK_len l (rfind l b) n l.length; omega) hk hs hg⟩
set_option maxRecDepth 100000 in
theorem Until_rs (h : RSI w0 B rb sb ex T l w) (names : List ByteArray) (a : Option Addr) (c : Nat) (ha : AtF (Own w0 ex) w a (strsV names)) (hn : names.length ≤ 1048576) :
    Calls Try.prog 75 #[.pointer (some ⟨sb, 0, none⟩), .slice a names.length c] w fun e w' => e = .returned (.tuple #[]) ∧ RSI w0 B rb sb ex T (untilF T names l.reverse).reverse w' ∧ Keeps (Own w0 ex) w w' := by
  have HS := Lib.hid h
  have HA := Lib.hid ha
  have hsh := h.short
  clear h ha
  go_enter Try.func75, Try.ntmps75
  go_wp2_with fail
  go_loopg [] l.length (fun k wr => Hid (k ≤ l.length ∧ RSI w0 B rb sb ex T (l.take k) wr ∧ Keeps (Own w0 ex) w wr ∧ untilF T names l.reverse = untilF T names (l.take k).reverse))
  case atStart => exact Lib.hid ⟨Nat.le_refl _, by rw [List.take_of_length_le (Nat.le_refl _)]; exact HS.out, Keeps.refl _ _, by rw [List.take_of_length_le (Nat.le_refl _)]⟩
  case round =>
    have hk := hrel.out.1
    obtain ⟨sa, sc, c0, c1, _⟩ := hrel.out.2.1.cells
    rw [List.length_take, Nat.min_eq_left hk] at c1
    have HR := hrel
    clear hrel
    cases gk with
    | zero =>
      go_wp2_with fail
      go_end0
      refine ⟨rfl, ?_, HR.out.2.2.1⟩
      rw [HR.out.2.2.2]
      exact HR.out.2.1
    | succ k =>
      have hlt : k < l.length := by omega
      have HT := Lib.hid (take_last hlt)
      have HU := Lib.hid (untilF_step T names l k hlt)
      have HP := Lib.hid (Pop_rs HR.out.2.1)
      rw [HT.out.1, HT.out.2] at HP
      obtain ⟨x, hx⟩ : ∃ x, x = l[k] := ⟨_, rfl⟩
      rw [← hx] at HP HU
      clear hx
      cases hnm : namedF T x names
      all_goals
        rw [hnm] at HU
        go_wp2_with (first | (go_at_call 68; go_must (refine HP.out.mono ?_; rintro e w1 ⟨rfl, h1, hk1⟩; have HN := Lib.hid (named_rs h1 x names a c ((HA.out.kept HR.out.2.2.1).kept hk1).at hn); rw [hnm] at HN; have H1 := Lib.hid h1; have HK1 := Lib.hid hk1; clear h1 hk1)) | (go_at_call 101; go_must (refine HN.out.mono ?_; rintro e w2 ⟨rfl, hb2⟩; have HB2 := Lib.hid hb2; clear hb2)))
        have HE := Lib.hid (H1.out.world HB2.out)
        have HKE := Lib.hid ((HR.out.2.2.1.trans HK1.out).trans (Keeps.ofBelow HB2.out))
        first
          | (go_roundg k
             case measure => omega
             case rel => exact Lib.hid ⟨by omega, HE.out, HKE.out, by rw [HR.out.2.2.2, HU.out]; rfl⟩)
          | (refine bodyPost_ret (results_none rfl _ _ _) rfl ?_
             refine ⟨rfl, ?_, HKE.out⟩
             rw [HR.out.2.2.2, HU.out, if_pos trivial, List.reverse_reverse]
             exact HE.out)

end
end Go.Proofs.Ytidbihdnginmcaa

/-
  Contracts: Clear of the open elements, the program's and the document's, in a law's form. No conditions beyond those that each lemma types.
-/
namespace Go.Proofs.Ytidbihdnginmcaa
open Go.RowKit Mem

def stClear (T : TreeD) (names : List ByteArray) : List Int → List Int
  | [] => []
  | x :: r => if namedF T x names then x :: r else stClear T names r
theorem stClear_step (T : TreeD) (names : List ByteArray) (l : List Int) (k : Nat) (h : k < l.length) : stClear T names (l.take (k + 1)).reverse = if namedF T l[k] names then (l.take (k + 1)).reverse else stClear T names (l.take k).reverse := by
  rw [List.take_succ_eq_append_getElem h, List.reverse_append]
  rfl

section
variable {w0 w w' : World} {B tb rb sb : Nat} {ex : Nat → Prop} {T : TreeD} {l : List Int}

set_option maxRecDepth 100000 in
set_option maxHeartbeats 4000000 in
theorem Clear_si (h : SI w0 B tb sb ex T l w) (names : List ByteArray) (a : Option Addr) (c : Nat) (ha : AtF (Own w0 ex) w a (strsV names)) (hn : names.length ≤ 1048576) :
    Calls Try.prog 76 #[.pointer (some ⟨sb, 0, none⟩), .slice a names.length c] w fun e w' => e = .returned (.tuple #[]) ∧ SI w0 B tb sb ex T (stClear T names l.reverse).reverse w' ∧ Keeps (Own w0 ex) w w' := by
  have HS := Lib.hid h
  have HA := Lib.hid ha
  have hsh := h.short
  clear h ha
  go_enter Try.func76, Try.ntmps76
  go_wp2_with fail
  go_loopg [] l.length (fun k wr => Hid (k ≤ l.length ∧ SI w0 B tb sb ex T (l.take k) wr ∧ Keeps (Own w0 ex) w wr ∧ stClear T names l.reverse = stClear T names (l.take k).reverse))
  case atStart => exact Lib.hid ⟨Nat.le_refl _, by rw [List.take_of_length_le (Nat.le_refl _)]; exact HS.out, Keeps.refl _ _, by rw [List.take_of_length_le (Nat.le_refl _)]⟩
  case round =>
    have hk := hrel.out.1
    obtain ⟨sa, sc, c0, c1, _⟩ := hrel.out.2.1.cells
    rw [List.length_take, Nat.min_eq_left hk] at c1
    have HR := hrel
    clear hrel
    cases gk with
    | zero =>
      go_wp2_with fail
      go_end0
      refine ⟨rfl, ?_, HR.out.2.2.1⟩
      rw [HR.out.2.2.2]
      exact HR.out.2.1
    | succ k =>
      have hlt : k < l.length := by omega
      have HT := Lib.hid (take_last hlt)
      have HU := Lib.hid (stClear_step T names l k hlt)
      have HTp := Lib.hid (Top_si HR.out.2.1)
      rw [HT.out.1] at HTp
      obtain ⟨x, hx⟩ : ∃ x, x = l[k] := ⟨_, rfl⟩
      have HX := Lib.hid hx
      rw [← hx] at HTp HU
      clear hx
      cases hnm : namedF T x names
      all_goals
        rw [hnm] at HU
        go_wp2_with (first
          | (go_at_call 33; go_must (refine HTp.out.mono ?_; rintro e w1 ⟨rfl, q, rfl⟩; have H1 := Lib.hid (HR.out.2.1.world (stk_drewN wr q)); have K1 := Lib.hid (HR.out.2.2.1.trans (Keeps.ofBelow (stk_drewN wr q))); have HN := Lib.hid (named_si H1.out x names a c (HA.out.kept K1.out).at hn); rw [hnm] at HN))
          | (go_at_call 65; go_must (refine HN.out.mono ?_; rintro e w2 ⟨rfl, hb2⟩; have H2 := Lib.hid (H1.out.world hb2); have K2 := Lib.hid (K1.out.trans (Keeps.ofBelow hb2)); have HP := Lib.hid (Pop_si H2.out); rw [HT.out.1, HT.out.2] at HP; clear hb2))
          | (go_at_call 67; go_must (refine HP.out.mono ?_; rintro e w3 ⟨rfl, h3, k3⟩; have H3 := Lib.hid h3; have K3 := Lib.hid (K2.out.trans k3); clear h3 k3)))
        first
          | (go_roundg k
             case measure => omega
             case rel => exact Lib.hid ⟨by omega, H3.out, K3.out, by rw [HR.out.2.2.2, HU.out]; rfl⟩)
          | (go_end0
             refine ⟨rfl, ?_, K2.out⟩
             rw [HR.out.2.2.2, HU.out, if_pos trivial, List.reverse_reverse]
             exact H2.out)
          | (refine bodyPost_ret (results_none rfl _ _ _) rfl ?_
             refine ⟨rfl, ?_, K2.out⟩
             rw [HR.out.2.2.2, HU.out, if_pos trivial, List.reverse_reverse]
             exact H2.out)

set_option maxRecDepth 100000 in
set_option maxHeartbeats 4000000 in
theorem Clear_rs (h : RSI w0 B rb sb ex T l w) (names : List ByteArray) (a : Option Addr) (c : Nat) (ha : AtF (Own w0 ex) w a (strsV names)) (hn : names.length ≤ 1048576) :
    Calls Try.prog 77 #[.pointer (some ⟨sb, 0, none⟩), .slice a names.length c] w fun e w' => e = .returned (.tuple #[]) ∧ RSI w0 B rb sb ex T (stClear T names l.reverse).reverse w' ∧ Keeps (Own w0 ex) w w' := by
  have HS := Lib.hid h
  have HA := Lib.hid ha
  have hsh := h.short
  clear h ha
  go_enter Try.func77, Try.ntmps77
  go_wp2_with fail
  go_loopg [] l.length (fun k wr => Hid (k ≤ l.length ∧ RSI w0 B rb sb ex T (l.take k) wr ∧ Keeps (Own w0 ex) w wr ∧ stClear T names l.reverse = stClear T names (l.take k).reverse))
  case atStart => exact Lib.hid ⟨Nat.le_refl _, by rw [List.take_of_length_le (Nat.le_refl _)]; exact HS.out, Keeps.refl _ _, by rw [List.take_of_length_le (Nat.le_refl _)]⟩
  case round =>
    have hk := hrel.out.1
    obtain ⟨sa, sc, c0, c1, _⟩ := hrel.out.2.1.cells
    rw [List.length_take, Nat.min_eq_left hk] at c1
    have HR := hrel
    clear hrel
    cases gk with
    | zero =>
      go_wp2_with fail
      go_end0
      refine ⟨rfl, ?_, HR.out.2.2.1⟩
      rw [HR.out.2.2.2]
      exact HR.out.2.1
    | succ k =>
      have hlt : k < l.length := by omega
      have HT := Lib.hid (take_last hlt)
      have HU := Lib.hid (stClear_step T names l k hlt)
      have HTp := Lib.hid (Top_rs HR.out.2.1)
      rw [HT.out.1] at HTp
      obtain ⟨x, hx⟩ : ∃ x, x = l[k] := ⟨_, rfl⟩
      have HX := Lib.hid hx
      rw [← hx] at HTp HU
      clear hx
      cases hnm : namedF T x names
      all_goals
        rw [hnm] at HU
        go_wp2_with (first
          | (go_at_call 34; go_must (refine HTp.out.mono ?_; rintro e w1 ⟨rfl, q, rfl⟩; have H1 := Lib.hid (HR.out.2.1.world (stk_drewN wr q)); have K1 := Lib.hid (HR.out.2.2.1.trans (Keeps.ofBelow (stk_drewN wr q))); have HN := Lib.hid (named_rs H1.out x names a c (HA.out.kept K1.out).at hn); rw [hnm] at HN))
          | (go_at_call 101; go_must (refine HN.out.mono ?_; rintro e w2 ⟨rfl, hb2⟩; have H2 := Lib.hid (H1.out.world hb2); have K2 := Lib.hid (K1.out.trans (Keeps.ofBelow hb2)); have HP := Lib.hid (Pop_rs H2.out); rw [HT.out.1, HT.out.2] at HP; clear hb2))
          | (go_at_call 68; go_must (refine HP.out.mono ?_; rintro e w3 ⟨rfl, h3, k3⟩; have H3 := Lib.hid h3; have K3 := Lib.hid (K2.out.trans k3); clear h3 k3)))
        first
          | (go_roundg k
             case measure => omega
             case rel => exact Lib.hid ⟨by omega, H3.out, K3.out, by rw [HR.out.2.2.2, HU.out]; rfl⟩)
          | (go_end0
             refine ⟨rfl, ?_, K2.out⟩
             rw [HR.out.2.2.2, HU.out, if_pos trivial, List.reverse_reverse]
             exact H2.out)
          | (refine bodyPost_ret (results_none rfl _ _ _) rfl ?_
             refine ⟨rfl, ?_, K2.out⟩
             rw [HR.out.2.2.2, HU.out, if_pos trivial, List.reverse_reverse]
             exact H2.out)
end
end Go.Proofs.Ytidbihdnginmcaa

/-
  Contract: Imply of the program's open elements, in a law's form. No conditions beyond those that each lemma types.
-/
namespace Go.Proofs.Ytidbihdnginmcaa
open Go.RowKit Mem

def impN : List ByteArray := [⟨#[100, 100]⟩, ⟨#[100, 116]⟩, ⟨#[108, 105]⟩, ⟨#[111, 112, 116, 103, 114, 111, 117, 112]⟩, ⟨#[111, 112, 116, 105, 111, 110]⟩, ⟨#[112]⟩, ⟨#[114, 98]⟩, ⟨#[114, 112]⟩, ⟨#[114, 116]⟩, ⟨#[114, 116, 99]⟩]
def stImply (T : TreeD) (but : ByteArray) : List Int → List Int
  | [] => []
  | x :: r => if namedF T x impN && !namedF T x [but] then stImply T but r else x :: r
theorem stImply_step (T : TreeD) (but : ByteArray) (l : List Int) (k : Nat) (h : k < l.length) : stImply T but (l.take (k + 1)).reverse = if namedF T l[k] impN && !namedF T l[k] [but] then stImply T but (l.take k).reverse else (l.take (k + 1)).reverse := by
  rw [List.take_succ_eq_append_getElem h, List.reverse_append]
  rfl

section
variable {w0 w w' : World} {B tb rb sb : Nat} {ex : Nat → Prop} {T : TreeD} {l : List Int}

set_option maxRecDepth 100000 in
set_option maxHeartbeats 8000000 in
theorem Imply_si (h : SI w0 B tb sb ex T l w) (but : ByteArray) :
    Calls Try.prog 78 #[.pointer (some ⟨sb, 0, none⟩), .string but] w fun e w' => e = .returned (.tuple #[]) ∧ SI w0 B tb sb ex T (stImply T but l.reverse).reverse w' ∧ Keeps (Own w0 ex) w w' := by
  have hA : At (w.alloc (.cells #[.string ⟨#[100, 100]⟩, .string ⟨#[100, 116]⟩, .string ⟨#[108, 105]⟩, .string ⟨#[111, 112, 116, 103, 114, 111, 117, 112]⟩, .string ⟨#[111, 112, 116, 105, 111, 110]⟩, .string ⟨#[112]⟩, .string ⟨#[114, 98]⟩, .string ⟨#[114, 112]⟩, .string ⟨#[114, 116]⟩, .string ⟨#[114, 116, 99]⟩] 9)) (some ⟨w.heap.size, 0, none⟩) (strsV impN) := at_alloc rfl rfl
  have HS := Lib.hid (h.lay (.cells #[.string ⟨#[100, 100]⟩, .string ⟨#[100, 116]⟩, .string ⟨#[108, 105]⟩, .string ⟨#[111, 112, 116, 103, 114, 111, 117, 112]⟩, .string ⟨#[111, 112, 116, 105, 111, 110]⟩, .string ⟨#[112]⟩, .string ⟨#[114, 98]⟩, .string ⟨#[114, 112]⟩, .string ⟨#[114, 116]⟩, .string ⟨#[114, 116, 99]⟩] 9))
  have HK0 : Hid (Keeps (Own w0 ex) w (w.alloc (.cells #[.string ⟨#[100, 100]⟩, .string ⟨#[100, 116]⟩, .string ⟨#[108, 105]⟩, .string ⟨#[111, 112, 116, 103, 114, 111, 117, 112]⟩, .string ⟨#[111, 112, 116, 105, 111, 110]⟩, .string ⟨#[112]⟩, .string ⟨#[114, 98]⟩, .string ⟨#[114, 112]⟩, .string ⟨#[114, 116]⟩, .string ⟨#[114, 116, 99]⟩] 9))) := Lib.hid ((Keeps.refl _ _).alloc _)
  have HA : Hid (AtF (Own w0 fun k => ex k ∨ k = w.heap.size) (w.alloc (.cells #[.string ⟨#[100, 100]⟩, .string ⟨#[100, 116]⟩, .string ⟨#[108, 105]⟩, .string ⟨#[111, 112, 116, 103, 114, 111, 117, 112]⟩, .string ⟨#[111, 112, 116, 105, 111, 110]⟩, .string ⟨#[112]⟩, .string ⟨#[114, 98]⟩, .string ⟨#[114, 112]⟩, .string ⟨#[114, 116]⟩, .string ⟨#[114, 116, 99]⟩] 9)) (some ⟨w.heap.size, 0, none⟩) (strsV impN)) := Lib.hid (AtF.of_new hA (fun b o s he => by cases he; exact fun hx => hx.2 (.inr rfl)))
  have hsh := h.short
  clear h hA
  go_enter Try.func78, Try.ntmps78
  go_wp2_with fail
  generalize w.alloc (.cells #[.string ⟨#[100, 100]⟩, .string ⟨#[100, 116]⟩, .string ⟨#[108, 105]⟩, .string ⟨#[111, 112, 116, 103, 114, 111, 117, 112]⟩, .string ⟨#[111, 112, 116, 105, 111, 110]⟩, .string ⟨#[112]⟩, .string ⟨#[114, 98]⟩, .string ⟨#[114, 112]⟩, .string ⟨#[114, 116]⟩, .string ⟨#[114, 116, 99]⟩] 9) = wa at *
  have HKa := Lib.hid (Keeps.refl (Own w0 fun k => ex k ∨ k = w.heap.size) wa)
  go_loopg [] l.length (fun k wr => Hid (k ≤ l.length ∧ SI w0 B tb sb (fun k => ex k ∨ k = w.heap.size) T (l.take k) wr ∧ Keeps (Own w0 fun k => ex k ∨ k = w.heap.size) wa wr ∧ stImply T but l.reverse = stImply T but (l.take k).reverse))
  case atStart => exact Lib.hid ⟨Nat.le_refl _, by rw [List.take_of_length_le (Nat.le_refl _)]; exact HS.out, HKa.out, by rw [List.take_of_length_le (Nat.le_refl _)]⟩
  case round =>
    have hk := hrel.out.1
    obtain ⟨sa, sc, c0, c1, _⟩ := hrel.out.2.1.cells
    rw [List.length_take, Nat.min_eq_left hk] at c1
    have HR := hrel
    clear hrel
    cases gk with
    | zero =>
      go_wp2_with fail
      go_end0
      refine ⟨rfl, ?_, HK0.out.trans (HR.out.2.2.1.mono fun _ _ hx => ⟨hx.1, fun hl => hx.2 (.inl hl)⟩)⟩
      rw [HR.out.2.2.2]
      exact HR.out.2.1.less fun _ hx => .inl hx
    | succ k =>
      have hlt : k < l.length := by omega
      have HT := Lib.hid (take_last hlt)
      have HU := Lib.hid (stImply_step T but l k hlt)
      have HTp := Lib.hid (Top_si HR.out.2.1)
      rw [HT.out.1] at HTp
      obtain ⟨x, hx⟩ : ∃ x, x = l[k] := ⟨_, rfl⟩
      rw [← hx] at HTp HU
      have HX := Lib.hid hx
      clear hx
      cases hnm : namedF T x impN
      · rw [hnm] at HU
        go_wp2_with (first
          | (go_at_call 33; go_must (refine HTp.out.mono ?_; rintro e w1 ⟨rfl, q, rfl⟩; have H1 := Lib.hid (HR.out.2.1.world (stk_drewN wr q)); have K1 := Lib.hid (HR.out.2.2.1.trans (Keeps.ofBelow (stk_drewN wr q))); have HN := Lib.hid (named_si H1.out x impN (some ⟨w.heap.size, 0, none⟩) 10 (HA.out.kept K1.out).at (by decide)); rw [hnm] at HN))
          | (go_at_call 65; go_must (refine HN.out.mono ?_; rintro e w2 ⟨rfl, hb2⟩; have H2 := Lib.hid (H1.out.world hb2); have K2 := Lib.hid (K1.out.trans (Keeps.ofBelow hb2)); clear hb2)))
        go_end0
        refine ⟨rfl, ?_, HK0.out.trans (K2.out.mono fun _ _ hx => ⟨hx.1, fun hl => hx.2 (.inl hl)⟩)⟩
        rw [HR.out.2.2.2, HU.out, Bool.false_and, if_neg (by simp), List.reverse_reverse]
        exact H2.out.less fun _ hx => .inl hx
      · rw [hnm] at HU
        cases hnb : namedF T x [but]
        all_goals
          rw [hnb] at HU
          go_wp2_with fail
          refine HTp.out.mono ?_
          rintro e w1 ⟨rfl, q, rfl⟩
          have H1 := Lib.hid (HR.out.2.1.world (stk_drewN wr q))
          have K1 := Lib.hid (HR.out.2.2.1.trans (Keeps.ofBelow (stk_drewN wr q)))
          have HN := Lib.hid (named_si H1.out x impN (some ⟨w.heap.size, 0, none⟩) 10 (HA.out.kept K1.out).at (by decide))
          rw [hnm] at HN
          go_wp2_with fail
          refine HN.out.mono ?_
          rintro e w2 ⟨rfl, hb2⟩
          have H2 := Lib.hid (H1.out.world hb2)
          have K2 := Lib.hid (K1.out.trans (Keeps.ofBelow hb2))
          have HTq := Lib.hid (Top_si H2.out)
          rw [HT.out.1, ← HX.out] at HTq
          clear hb2 HN H1 K1
          go_wp2_with fail
          refine HTq.out.mono ?_
          rintro e w3 ⟨rfl, q2, rfl⟩
          have hb3 := (stk_drewN w2 q2).trans (((Below.refl (w2.drewN q2).heap.size (w2.drewN q2)).alloc (Nat.le_refl _) (.cells #[.string but] 9)).mono (stk_drewN w2 q2).size)
          have H3 := Lib.hid (H2.out.world hb3)
          have K3 := Lib.hid (K2.out.trans (Keeps.ofBelow hb3))
          have HNb := Lib.hid (named_si H3.out x [but] (some ⟨(w2.drewN q2).heap.size, 0, none⟩) 1 (at_alloc rfl rfl) (by simp))
          rw [hnb] at HNb
          clear hb3 HTq H2 K2
          generalize w2.drewN q2 = w3 at *
          go_wp2_with fail
          refine HNb.out.mono ?_
          rintro e w4 ⟨rfl, hb4⟩
          have H4 := Lib.hid (H3.out.world hb4)
          have K4 := Lib.hid (K3.out.trans (Keeps.ofBelow hb4))
          have HP := Lib.hid (Pop_si H4.out)
          rw [HT.out.1, HT.out.2] at HP
          clear hb4 H3 K3 HNb
          go_wp2_with (go_at_call 67; go_must (refine HP.out.mono ?_; rintro e w5 ⟨rfl, h5, k5⟩; have H5 := Lib.hid h5; have K5 := Lib.hid (K4.out.trans k5); clear h5 k5))
        · go_roundg k
          case measure => omega
          case rel => exact Lib.hid ⟨by omega, H5.out, K5.out, by rw [HR.out.2.2.2, HU.out]; rfl⟩
        · go_end0
          refine ⟨rfl, ?_, HK0.out.trans (K4.out.mono fun _ _ hx => ⟨hx.1, fun hl => hx.2 (.inl hl)⟩)⟩
          rw [HR.out.2.2.2, HU.out, if_neg (by simp), List.reverse_reverse]
          exact H4.out.less fun _ hx => .inl hx
end
end Go.Proofs.Ytidbihdnginmcaa

/-
  Contract: Imply of the document's open elements, in a law's form. No conditions beyond those that each lemma types.
-/
namespace Go.Proofs.Ytidbihdnginmcaa
open Go.RowKit Mem

theorem named_one {T : TreeD} {i : Nat} {but : ByteArray} (hi : i < T.nodes.length) (h : namedF T i impN = true) : elemF T i = true ∧ namedF T i [but] = (T.nodes[i].name.toList == but.toList) := by
  simp only [namedF, Bool.and_eq_true] at h
  obtain ⟨h1, h2, _⟩ := h
  obtain ⟨_, e2, _⟩ := what_of hi h1
  refine ⟨h1, ?_⟩
  rw [namedF, h1, h2, e2]
  simp [isW]

section
variable {w0 w w' : World} {B tb rb sb : Nat} {ex : Nat → Prop} {T : TreeD} {l : List Int}
set_option maxRecDepth 100000 in
set_option maxHeartbeats 8000000 in
theorem Imply_rs (h : RSI w0 B rb sb ex T l w) (but : ByteArray) :
    Calls Try.prog 79 #[.pointer (some ⟨sb, 0, none⟩), .string but] w fun e w' => e = .returned (.tuple #[]) ∧ RSI w0 B rb sb ex T (stImply T but l.reverse).reverse w' ∧ Keeps (Own w0 ex) w w' := by
  have HS := Lib.hid h
  have hsh := h.short
  clear h
  go_enter Try.func79, Try.ntmps79
  go_wp2_with fail
  go_loopg [] l.length (fun k wr => Hid (k ≤ l.length ∧ RSI w0 B rb sb ex T (l.take k) wr ∧ Keeps (Own w0 ex) w wr ∧ stImply T but l.reverse = stImply T but (l.take k).reverse))
  case atStart => exact Lib.hid ⟨Nat.le_refl _, by rw [List.take_of_length_le (Nat.le_refl _)]; exact HS.out, Keeps.refl _ _, by rw [List.take_of_length_le (Nat.le_refl _)]⟩
  case round =>
    have hk := hrel.out.1
    obtain ⟨sa, sc, c0, c1, _⟩ := hrel.out.2.1.cells
    rw [List.length_take, Nat.min_eq_left hk] at c1
    have HR := hrel
    clear hrel
    cases gk with
    | zero =>
      go_wp2_with fail
      go_end0
      refine ⟨rfl, ?_, HR.out.2.2.1⟩
      rw [HR.out.2.2.2]
      exact HR.out.2.1
    | succ k =>
      have hlt : k < l.length := by omega
      have HT := Lib.hid (take_last hlt)
      have HU := Lib.hid (stImply_step T but l k hlt)
      have HTp := Lib.hid (Top_rs HR.out.2.1)
      rw [HT.out.1] at HTp
      obtain ⟨x, hx⟩ : ∃ x, x = l[k] := ⟨_, rfl⟩
      rw [← hx] at HTp HU
      have HX := Lib.hid hx
      clear hx
      go_wp2_with fail
      refine HTp.out.mono ?_
      rintro e w1 ⟨rfl, q, rfl⟩
      have hb1 := (stk_drewN wr q).trans (((Below.refl (wr.drewN q).heap.size (wr.drewN q)).alloc (Nat.le_refl _) (.cells #[.string ⟨#[100, 100]⟩, .string ⟨#[100, 116]⟩, .string ⟨#[108, 105]⟩, .string ⟨#[111, 112, 116, 103, 114, 111, 117, 112]⟩, .string ⟨#[111, 112, 116, 105, 111, 110]⟩, .string ⟨#[112]⟩, .string ⟨#[114, 98]⟩, .string ⟨#[114, 112]⟩, .string ⟨#[114, 116]⟩, .string ⟨#[114, 116, 99]⟩] 9)).mono (stk_drewN wr q).size)
      have H1 := Lib.hid (HR.out.2.1.world hb1)
      have K1 := Lib.hid (HR.out.2.2.1.trans (Keeps.ofBelow hb1))
      have HN := Lib.hid (named_rs H1.out x impN (some ⟨(wr.drewN q).heap.size, 0, none⟩) 10 (at_alloc rfl rfl) (by decide))
      clear hb1 HTp c1
      generalize wr.drewN q = w1 at *
      go_wp2_with fail
      refine HN.out.mono ?_
      rintro e w2 ⟨rfl, hb2⟩
      have H2 := Lib.hid (H1.out.world hb2)
      have K2 := Lib.hid (K1.out.trans (Keeps.ofBelow hb2))
      clear hb2 HN H1 K1
      cases hnm : namedF T x impN
      · rw [hnm] at HU
        go_wp2_with fail
        refine wp_region_calm (by kernel_rfl) (by kernel_rfl) ?_
        repeat
          with_reducible refine wpQuiet_step (fun K hK => ?_)
          first
            | (with_reducible apply calm_skip
               · rfl
               simp only [Act.put, List.setIfInBounds_toArray, List.set_cons_zero, List.set_cons_succ]
               refine hK _ ?_
               clear hK K)
            | (with_reducible apply calm_run
               · rfl
               · intro wq hC
                 unfold Oper.quietAt
                 go_simp
                 first | done | with_reducible rfl | rfl
               simp only [Act.put, List.setIfInBounds_toArray, List.set_cons_zero, List.set_cons_succ]
               refine hK _ ?_
               clear hK K)
        with_reducible refine wpQuiet_nil ?_
        intro wq HQ
        have H3 := Lib.hid (H2.out.world HQ.out)
        have K3 := Lib.hid (K2.out.trans (Keeps.ofBelow HQ.out))
        go_wp2_with fail
        refine bodyPost_ret (results_none rfl _ _ _) rfl ?_
        refine ⟨rfl, ?_, K3.out⟩
        rw [HR.out.2.2.2, HU.out, Bool.false_and, if_neg (by simp), List.reverse_reverse]
        exact H3.out
      · obtain ⟨gn, gk, gs, far, hio, hrs, _, _⟩ := H2.out
        have hel : elemF T x = true := by
          simp only [namedF, Bool.and_eq_true] at hnm
          exact hnm.1
        obtain ⟨i, hi, hxi, _, _⟩ := elemF_nat hel
        rw [hxi] at hnm
        obtain ⟨_, hone⟩ := named_one (but := but) hi hnm
        rw [← hxi] at hone hnm
        obtain ⟨capn, capk, p1, p2, _, _, t0, _, _, _⟩ := hio.tree.head
        obtain ⟨_, _, _, _, _, _, _, d2, _⟩ := hio.tree.node6 (i := i) hi
        obtain ⟨_, _, s0, _⟩ := hrs.cells
        simp only [farW] at p1 t0 d2
        have HTq := Lib.hid (fun u (hu : Below w2.heap.size w2 u) => Top_rs (H2.out.world hu))
        rw [HT.out.1, ← HX.out, hxi] at HTq
        rw [hnm, hone] at HU
        have HXI := Lib.hid hxi
        unfold maxLen at p2
        clear hio hrs hel hxi hone hnm
        generalize T.nodes[i].name = nm at *
        cases hq : (nm.toList == but.toList)
        all_goals
          rw [hq] at HU
          go_wp2_with fail
          refine wp_region_calm (by kernel_rfl) (by kernel_rfl) ?_
          repeat
            with_reducible refine wpQuiet_step (fun K hK => ?_)
            first
              | (with_reducible apply calm_skip
                 · rfl
                 simp only [Act.put, List.setIfInBounds_toArray, List.set_cons_zero, List.set_cons_succ]
                 refine hK _ ?_
                 clear hK K)
              | (with_reducible apply calm_run
                 · rfl
                 · intro wq hC
                   have zt0 := cell_later hC.out t0
                   have zd2 := cell_later hC.out d2
                   have zs0 := cell_later hC.out s0
                   unfold Oper.quietAt
                   go_simp
                   first | done | (go_at_call 34; refine (HTq.out _ hC.out).mono ?_; rintro e wx ⟨rfl, q3, rfl⟩; exact ⟨rfl, Lib.hid (belowCall hC.out (stk_drewN _ q3))⟩) | with_reducible rfl | rfl
                 simp only [Act.put, List.setIfInBounds_toArray, List.set_cons_zero, List.set_cons_succ]
                 refine hK _ ?_
                 clear hK K)
          with_reducible refine wpQuiet_nil ?_
          intro wq HQ
          have zt0 := cell_later HQ.out t0
          have zd2 := cell_later HQ.out d2
          have zs0 := cell_later HQ.out s0
          have H3 := Lib.hid (H2.out.world HQ.out)
          have K3 := Lib.hid (K2.out.trans (Keeps.ofBelow HQ.out))
          have HP := Lib.hid (Pop_rs H3.out)
          rw [HT.out.1, HT.out.2] at HP
          go_wp2_with (go_at_call 68; go_must (refine HP.out.mono ?_; rintro e w5 ⟨rfl, h5, k5⟩; have H5 := Lib.hid h5; have K5 := Lib.hid (K3.out.trans k5); clear h5 k5))
        · go_roundg k
          case measure => omega
          case rel => exact Lib.hid ⟨by omega, H5.out, K5.out, by rw [HR.out.2.2.2, HU.out]; rfl⟩
        · refine bodyPost_ret (results_none rfl _ _ _) rfl ?_
          refine ⟨rfl, ?_, K3.out⟩
          rw [HR.out.2.2.2, HU.out, if_neg (by simp), List.reverse_reverse]
          exact H3.out
end
end Go.Proofs.Ytidbihdnginmcaa
