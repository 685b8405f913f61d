import Derived.Test.YtclflmjpdglgiaaGreatRfQQ
import Derived.Test.YtclflmjpdglgiaaGreatRstC
import Derived.Test.YtclflmjpdglgiaaGreatRstE
import Derived.Test.YtclflmjpdglgiaaGreatStkDG
/-
  The document's tree and its open elements side by side, through a law's calls; and Until. (Beside them blocks of other things may lie, that are left alone.)
-/
namespace Go.Proofs.YtclflmjpdglgiaaGreat
open Go.RowKit Mem

def RSI (w0 : World) (B rb sb : Nat) (ex : Nat → Prop) (T : TreeD) (l : List Int) (w : World) : Prop :=
  ∃ gn gk gs far, RIo w0 B rb ex T w gn gk far ∧ RstO w sb rb gs l ∧ (∀ k, SB sb gs k → far k ∧ w0.heap.size ≤ k ∧ ¬ ex k) ∧ l.length ≤ 1000000

section
variable {w0 w w' : World} {B rb sb : Nat} {ex : Nat → Prop} {T : TreeD} {l l' : List Int}
theorem RSI.short (h : RSI w0 B rb sb ex T l w) : l.length ≤ 1000000 := by
  obtain ⟨_, _, _, _, _, _, _, h⟩ := h
  exact h
theorem RSI.below (h : RSI w0 B rb sb ex T l w) : Below w0.heap.size w0 w := by
  obtain ⟨_, _, _, _, h, _⟩ := h
  exact h.below
theorem RSI.exlt (h : RSI w0 B rb sb ex T l w) : ∀ k, ex k → k < w.heap.size := by
  obtain ⟨_, _, _, _, h, _⟩ := h
  exact fun k hk => (h.tree.faravoid k (h.exf k hk)).1
theorem RSI.cells (h : RSI w0 B rb sb ex T l w) : ∃ a c, w.cell? ⟨sb, 0, none⟩ = some (.pointer (some ⟨rb, 0, none⟩)) ∧ w.cell? ⟨sb, 1, none⟩ = some (.slice a l.length c) ∧ At w a (intsV l) := by
  obtain ⟨_, _, _, _, _, h, _⟩ := h
  obtain ⟨a, c, h1, h2, h3, _⟩ := h.cells
  exact ⟨a, c, h1, h2, h3⟩
theorem RSI.foreign {ex' F : Nat → Prop} (h : RSI w0 B rb sb ex T l w) (hk : Keeps F w w') (hF : ∀ k, k < w.heap.size → F k → ex k ∧ w0.heap.size ≤ k) (he : ∀ k, ex' k → (ex k ∨ w.heap.size ≤ k) ∧ k < w'.heap.size) : RSI w0 B rb sb ex' T l w' := by
  obtain ⟨gn, gk, gs, far, h, hs, h3, h4⟩ := h
  have hk2 : Keeps (fun k => F k ∧ k < w.heap.size) w w' := hk.mono fun k hk hx => ⟨hx, hk⟩
  have hlt := hs.lt
  have hT := h.tree.foreign (far' := fun k => far k ∨ ex' k) hk2 (fun k hx => h.exf k (hF k hx.2 hx.1).1) fun k hx => by
    rcases hx with hx | hx
    · exact ⟨.inl hx, Nat.lt_of_lt_of_le (h.tree.faravoid k hx).1 hk.size⟩
    · exact ⟨(he k hx).1.imp (h.exf k) id, (he k hx).2⟩
  refine ⟨gn, gk, gs, _, ⟨hT, h.wf, h.below.trans (hk2.below (fun k hk' hx => by have := (hF k hx.2 hx.1).2; omega) h.below.size), h.own, fun k hk => .inr hk, h.len, h.most, h.att, h.txt⟩, hs.kept hk2 fun k hk' hx => (h3 k hk').2.2 (hF k hx.2 hx.1).1, fun k hk' => ?_, h4⟩
  obtain ⟨q1, q2, q3⟩ := h3 k hk'
  refine ⟨.inl q1, q2, fun hx => ?_⟩
  rcases (he k hx).1 with e | e
  · exact q3 e
  · have := hlt k hk'; omega
theorem RSI.world (h : RSI w0 B rb sb ex T l w) (hb : Below w.heap.size w w') : RSI w0 B rb sb ex T l w' :=
  h.foreign (F := fun _ => False) (Keeps.ofBelow hb) (fun _ _ h => h.elim) fun k hk => ⟨.inl hk, Nat.lt_of_lt_of_le (h.exlt k hk) hb.size⟩
theorem rsi_step {gn gk : Nat} {gs gs' : Option Nat} {far : Nat → Prop} (h1 : RIo w0 B rb ex T w gn gk far) (h3 : ∀ k, SB sb gs k → far k ∧ w0.heap.size ≤ k ∧ ¬ ex k) (h5 : l'.length ≤ 1000000)
    (hk : Keeps (SB sb gs) w w') (hs : RstO w' sb rb gs' l') (hg : ∀ k, gs' = some k → gs = some k ∨ w.heap.size ≤ k) : RSI w0 B rb sb ex T l' w' ∧ Keeps (Own w0 ex) w w' := by
  have hlt := hs.lt
  have hT := h1.tree.foreign (far' := fun k => far k ∨ SB sb gs' k) hk (fun k hk' => (h3 k hk').1) (fun k hk' => by
    rcases hk' with hk' | hk'
    · exact ⟨.inl hk', Nat.lt_of_lt_of_le (h1.tree.faravoid k hk').1 hk.size⟩
    · refine ⟨?_, hlt k hk'⟩
      rcases hk' with e | e
      · exact .inl (h3 k (.inl e)).1
      · exact (hg k e).imp (fun e => (h3 k (.inr e)).1) id)
  refine ⟨⟨gn, gk, gs', _, ⟨hT, h1.wf, h1.below.trans (hk.below (fun k hk' hx => by have := (h3 k hx).2.1; omega) h1.below.size), h1.own, fun k hk => .inl (h1.exf k hk), h1.len, h1.most, h1.att, h1.txt⟩, hs, ?_, h5⟩, hk.mono fun k _ hk' => (h3 k hk').2⟩
  intro k hk'
  refine ⟨.inr hk', ?_⟩
  rcases hk' with e | e
  · exact (h3 k (.inl e)).2
  · rcases hg k e with e' | e'
    · exact (h3 k (.inr e')).2
    · have hs := h1.below.size
      refine ⟨by omega, fun hx => ?_⟩
      have := (h1.tree.faravoid k (h1.exf k hx)).1
      omega

theorem Find_rs (h : RSI w0 B rb sb ex T l w) (n : Int) : Calls Tryz.prog 63 #[.pointer (some ⟨sb, 0, none⟩), .int .i64 n] w fun e w' => e = .returned (.int .i64 (rfind l n)) ∧ w = w' := by
  obtain ⟨_, _, gs, _, _, h, _, hl⟩ := h
  exact rst_find w sb rb gs l h n (by omega)
theorem Top_rs (h : RSI w0 B rb sb ex T l w) : Calls Tryz.prog 60 #[.pointer (some ⟨sb, 0, none⟩)] w fun e w' => e = .returned (.int .i64 (l.getLast?.getD 0)) ∧ ∃ q, w' = w.drewN q := by
  obtain ⟨_, _, gs, _, _, h, _, hl⟩ := h
  exact rst_top w sb rb gs l h (by omega)
theorem named_rs (h : RSI w0 B rb sb ex T l w) (n : Int) (names : List ByteArray) (a : Option Addr) (c : Nat) (ha : At w a (strsV names)) (hl : names.length ≤ 1048576) :
    Calls Tryz.prog 61 #[.pointer (some ⟨sb, 0, none⟩), .int .i64 n, .slice a names.length c] w fun e w' => e = .returned (.bool (namedF T n names)) ∧ Below w.heap.size w w' := by
  obtain ⟨gn, gk, gs, far, h1, h, _, _⟩ := h
  exact rst_named (farW far T) w sb rb gn gk gs l h h1.tree n names a c _ rfl ha hl
theorem HasNode_rs (h : RSI w0 B rb sb ex T l w) (m : Int) :
    Calls Tryz.prog 64 #[.pointer (some ⟨sb, 0, none⟩), .int .i64 m] w fun e w' => e = .returned (.bool (hasNodeF T l m)) ∧ Below w.heap.size w w' := by
  obtain ⟨gn, gk, gs, far, h1, h, _, hl⟩ := h
  exact rst_hasnode (farW far T) w sb rb gn gk gs l h h1.tree (by omega) m
theorem Pop_rs (h : RSI w0 B rb sb ex T l w) :
    Calls Tryz.prog 32 #[.pointer (some ⟨sb, 0, none⟩)] w fun e w' => e = .returned (.int .i64 (l.getLast?.getD 0)) ∧ RSI w0 B rb sb ex T l.dropLast w' ∧ Keeps (Own w0 ex) w w' := by
  obtain ⟨gn, gk, gs, far, h1, h, h3, hl⟩ := h
  refine (rst_pop w sb rb gs l h (by omega)).mono ?_
  rintro e w' ⟨he, gs', hs, hg, hk⟩
  exact ⟨he, rsi_step h1 h3 (by rw [List.length_dropLast]; omega) hk hs hg⟩
theorem Remove_rs (h : RSI w0 B rb sb ex T l w) (n : Int) :
    Calls Tryz.prog 104 #[.pointer (some ⟨sb, 0, none⟩), .int .i64 n] w fun e w' => e = .returned (.tuple #[]) ∧ RSI w0 B rb sb ex T (rmF l n) w' ∧ Keeps (Own w0 ex) w w' := by
  obtain ⟨gn, gk, gs, far, h1, h, h3, hl⟩ := h
  refine (rst_remove w sb rb gs l h n (by omega)).mono ?_
  rintro e w' ⟨he, gs', hs, hg, hk⟩
  exact ⟨he, rsi_step h1 h3 (Nat.le_trans (dropF_len _ _) hl) hk hs hg⟩
theorem Swap_rs (h : RSI w0 B rb sb ex T l w) (o n : Int) :
    Calls Tryz.prog 106 #[.pointer (some ⟨sb, 0, none⟩), .int .i64 o, .int .i64 n] w fun e w' => e = .returned (.tuple #[]) ∧ RSI w0 B rb sb ex T (swapF l o n) w' ∧ Keeps (Own w0 ex) w w' := by
  obtain ⟨gn, gk, gs, far, h1, h, h3, hl⟩ := h
  refine (rst_swap w sb rb gs l h o n (by omega)).mono ?_
  rintro e w' ⟨he, hs, hk⟩
  exact ⟨he, rsi_step h1 h3 (by unfold swapF; split <;> simp [hl]) hk hs fun k hk => .inl hk⟩
theorem Insert_rs (h : RSI w0 B rb sb ex T l w) (b n : Int) (hlt : l.length < 1000000) :
    Calls Tryz.prog 108 #[.pointer (some ⟨sb, 0, none⟩), .int .i64 b, .int .i64 n] w fun e w' => e = .returned (.tuple #[]) ∧ RSI w0 B rb sb ex T (insF l b n) w' ∧ Keeps (Own w0 ex) w w' := by
  obtain ⟨gn, gk, gs, far, h1, h, h3, hl⟩ := h
  refine (rst_insert w sb rb gs l h b n (by omega)).mono ?_
  rintro e w' ⟨he, gs', hs, hg, hk⟩
  exact ⟨he, rsi_step h1 h3 (by rw [← insK_end]; have := insK_len l (rfind l b) n l.length; omega) hk hs hg⟩
set_option maxRecDepth 100000 in
theorem Until_rs (h : RSI w0 B rb sb ex T l w) (names : List ByteArray) (a : Option Addr) (c : Nat) (ha : AtF (Own w0 ex) w a (strsV names)) (hn : names.length ≤ 1048576) :
    Calls Tryz.prog 37 #[.pointer (some ⟨sb, 0, none⟩), .slice a names.length c] w fun e w' => e = .returned (.tuple #[]) ∧ RSI w0 B rb sb ex T (untilF T names l.reverse).reverse w' ∧ Keeps (Own w0 ex) w w' := by
  have HS := Lib.hid h
  have HA := Lib.hid ha
  have hsh := h.short
  clear h ha
  go_enter Tryz.func37, Tryz.ntmps37
  go_wp2_with fail
  go_loopg [] l.length (fun k wr => Hid (k ≤ l.length ∧ RSI w0 B rb sb ex T (l.take k) wr ∧ Keeps (Own w0 ex) w wr ∧ untilF T names l.reverse = untilF T names (l.take k).reverse))
  case atStart => exact Lib.hid ⟨Nat.le_refl _, by rw [List.take_of_length_le (Nat.le_refl _)]; exact HS.out, Keeps.refl _ _, by rw [List.take_of_length_le (Nat.le_refl _)]⟩
  case round =>
    have hk := hrel.out.1
    obtain ⟨sa, sc, c0, c1, _⟩ := hrel.out.2.1.cells
    rw [List.length_take, Nat.min_eq_left hk] at c1
    have HR := hrel
    clear hrel
    cases gk with
    | zero =>
      go_wp2_with fail
      go_end0
      refine ⟨rfl, ?_, HR.out.2.2.1⟩
      rw [HR.out.2.2.2]
      exact HR.out.2.1
    | succ k =>
      have hlt : k < l.length := by omega
      have HT := Lib.hid (take_last hlt)
      have HU := Lib.hid (untilF_step T names l k hlt)
      have HP := Lib.hid (Pop_rs HR.out.2.1)
      rw [HT.out.1, HT.out.2] at HP
      obtain ⟨x, hx⟩ : ∃ x, x = l[k] := ⟨_, rfl⟩
      rw [← hx] at HP HU
      clear hx
      cases hnm : namedF T x names
      all_goals
        rw [hnm] at HU
        go_wp2_with (first | (go_at_call 32; go_must (refine HP.out.mono ?_; rintro e w1 ⟨rfl, h1, hk1⟩; have HN := Lib.hid (named_rs h1 x names a c ((HA.out.kept HR.out.2.2.1).kept hk1).at hn); rw [hnm] at HN; have H1 := Lib.hid h1; have HK1 := Lib.hid hk1; clear h1 hk1)) | (go_at_call 61; go_must (refine HN.out.mono ?_; rintro e w2 ⟨rfl, hb2⟩; have HB2 := Lib.hid hb2; clear hb2)))
        have HE := Lib.hid (H1.out.world HB2.out)
        have HKE := Lib.hid ((HR.out.2.2.1.trans HK1.out).trans (Keeps.ofBelow HB2.out))
        first
          | (go_roundg k
             case measure => omega
             case rel => exact Lib.hid ⟨by omega, HE.out, HKE.out, by rw [HR.out.2.2.2, HU.out]; rfl⟩)
          | (refine bodyPost_ret (results_none rfl _ _ _) rfl ?_
             refine ⟨rfl, ?_, HKE.out⟩
             rw [HR.out.2.2.2, HU.out, if_pos trivial, List.reverse_reverse]
             exact HE.out)

end
end Go.Proofs.YtclflmjpdglgiaaGreat

/-
  Contracts: Clear of the open elements, the program's and the document's, in a law's form. No conditions beyond those that each lemma types.
-/
namespace Go.Proofs.YtclflmjpdglgiaaGreat
open Go.RowKit Mem

def stClear (T : TreeD) (names : List ByteArray) : List Int → List Int
  | [] => []
  | x :: r => if namedF T x names then x :: r else stClear T names r
theorem stClear_step (T : TreeD) (names : List ByteArray) (l : List Int) (k : Nat) (h : k < l.length) : stClear T names (l.take (k + 1)).reverse = if namedF T l[k] names then (l.take (k + 1)).reverse else stClear T names (l.take k).reverse := by
  rw [List.take_succ_eq_append_getElem h, List.reverse_append]
  rfl

section
variable {w0 w w' : World} {B tb rb sb : Nat} {ex : Nat → Prop} {T : TreeD} {l : List Int}

end
end Go.Proofs.YtclflmjpdglgiaaGreat

/-
  Contract: Imply of the program's open elements, in a law's form. No conditions beyond those that each lemma types.
-/
namespace Go.Proofs.YtclflmjpdglgiaaGreat
open Go.RowKit Mem

def impN : List ByteArray := [⟨#[100, 100]⟩, ⟨#[100, 116]⟩, ⟨#[108, 105]⟩, ⟨#[111, 112, 116, 103, 114, 111, 117, 112]⟩, ⟨#[111, 112, 116, 105, 111, 110]⟩, ⟨#[112]⟩, ⟨#[114, 98]⟩, ⟨#[114, 112]⟩, ⟨#[114, 116]⟩, ⟨#[114, 116, 99]⟩]
def stImply (T : TreeD) (but : ByteArray) : List Int → List Int
  | [] => []
  | x :: r => if namedF T x impN && !namedF T x [but] then stImply T but r else x :: r
theorem stImply_step (T : TreeD) (but : ByteArray) (l : List Int) (k : Nat) (h : k < l.length) : stImply T but (l.take (k + 1)).reverse = if namedF T l[k] impN && !namedF T l[k] [but] then stImply T but (l.take k).reverse else (l.take (k + 1)).reverse := by
  rw [List.take_succ_eq_append_getElem h, List.reverse_append]
  rfl

section
variable {w0 w w' : World} {B tb rb sb : Nat} {ex : Nat → Prop} {T : TreeD} {l : List Int}

end
end Go.Proofs.YtclflmjpdglgiaaGreat

/-
  Contract: Imply of the document's open elements, in a law's form. No conditions beyond those that each lemma types.
-/
namespace Go.Proofs.YtclflmjpdglgiaaGreat
open Go.RowKit Mem

theorem named_one {T : TreeD} {i : Nat} {but : ByteArray} (hi : i < T.nodes.length) (h : namedF T i impN = true) : elemF T i = true ∧ namedF T i [but] = (T.nodes[i].name.toList == but.toList) := by
  simp only [namedF, Bool.and_eq_true] at h
  obtain ⟨h1, h2, _⟩ := h
  obtain ⟨_, e2, _⟩ := what_of hi h1
  refine ⟨h1, ?_⟩
  rw [namedF, h1, h2, e2]
  simp [isW]

section
variable {w0 w w' : World} {B tb rb sb : Nat} {ex : Nat → Prop} {T : TreeD} {l : List Int}
end
end Go.Proofs.YtclflmjpdglgiaaGreat
