/-
  Contract: the open elements' Until, Clear, Imply beside a tree.
-/
import Derived.Test.YtidbihdnginmcaaStkF
import Derived.Deep.LoopGhost
namespace Go.Proofs.Ytidbihdnginmcaa
open Go.RowKit Mem

section
variable {w0 w w' : World} {B B' tb sb : Nat} {ex : Nat → Prop} {T T' : TreeD} {l : List Int}
theorem SI.cells (h : SI w0 B tb sb ex T l w) : ∃ a c, w.cell? ⟨sb, 0, none⟩ = some (.pointer (some ⟨tb, 0, none⟩)) ∧ w.cell? ⟨sb, 1, none⟩ = some (.slice a l.length c) ∧ At w a (intsV l) := by
  obtain ⟨g, gs, far, h1, h2, h3, h4, h5⟩ := h
  obtain ⟨a, c, c0, c1, hA, _⟩ := h2.cells
  exact ⟨a, c, c0, c1, hA⟩
theorem take_last {l : List Int} {k : Nat} (h : k < l.length) : (l.take (k + 1)).getLast?.getD 0 = l[k] ∧ (l.take (k + 1)).dropLast = l.take k := by
  rw [List.take_succ_eq_append_getElem h]
  exact ⟨by rw [List.getLast?_concat]; rfl, List.dropLast_concat⟩
theorem untilF_step (T : TreeD) (names : List ByteArray) (l : List Int) (k : Nat) (h : k < l.length) : untilF T names (l.take (k + 1)).reverse = if namedF T l[k] names then (l.take k).reverse else untilF T names (l.take k).reverse := by
  rw [List.take_succ_eq_append_getElem h, List.reverse_append]
  rfl

set_option maxRecDepth 100000 in
theorem Until_si (h : SI w0 B tb sb ex T l w) (names : List ByteArray) (a : Option Addr) (c : Nat) (ha : AtF (Own w0 ex) w a (strsV names)) (hn : names.length ≤ 1048576) :
    Calls Try.prog 30 #[.pointer (some ⟨sb, 0, none⟩), .slice a names.length c] w fun e w' => e = .returned (.tuple #[]) ∧ SI w0 B tb sb ex T (untilF T names l.reverse).reverse w' ∧ Keeps (Own w0 ex) w w' := by
  have HS := Lib.hid h
  have HA := Lib.hid ha
  have hsh := h.short
  clear h ha
  go_enter Try.func30, Try.ntmps30
  go_wp2_with fail
  go_loopg [] l.length (fun k wr => Hid (k ≤ l.length ∧ SI w0 B tb sb ex T (l.take k) wr ∧ Keeps (Own w0 ex) w wr ∧ untilF T names l.reverse = untilF T names (l.take k).reverse))
  case atStart => exact Lib.hid ⟨Nat.le_refl _, by rw [List.take_of_length_le (Nat.le_refl _)]; exact HS.out, Keeps.refl _ _, by rw [List.take_of_length_le (Nat.le_refl _)]⟩
  case round =>
    have hk := hrel.out.1
    obtain ⟨sa, sc, c0, c1, _⟩ := hrel.out.2.1.cells
    rw [List.length_take, Nat.min_eq_left hk] at c1
    have HR := hrel
    clear hrel
    cases gk with
    | zero =>
      go_wp2_with fail
      go_end0
      refine ⟨rfl, ?_, HR.out.2.2.1⟩
      rw [HR.out.2.2.2]
      exact HR.out.2.1
    | succ k =>
      have hlt : k < l.length := by omega
      have HT := Lib.hid (take_last hlt)
      have HU := Lib.hid (untilF_step T names l k hlt)
      have HP := Lib.hid (Pop_si HR.out.2.1)
      rw [HT.out.1, HT.out.2] at HP
      obtain ⟨x, hx⟩ : ∃ x, x = l[k] := ⟨_, rfl⟩
      rw [← hx] at HP HU
      clear hx
      cases hnm : namedF T x names
      all_goals
        rw [hnm] at HU
        go_wp2_with (first | (go_at_call 67; go_must (refine HP.out.mono ?_; rintro e w1 ⟨rfl, h1, hk1⟩; have HN := Lib.hid (named_si h1 x names a c ((HA.out.kept HR.out.2.2.1).kept hk1).at hn); rw [hnm] at HN; have H1 := Lib.hid h1; have HK1 := Lib.hid hk1; clear h1 hk1)) | (go_at_call 65; go_must (refine HN.out.mono ?_; rintro e w2 ⟨rfl, hb2⟩; have HB2 := Lib.hid hb2; clear hb2)))
        have HE := Lib.hid (H1.out.world HB2.out)
        have HKE := Lib.hid ((HR.out.2.2.1.trans HK1.out).trans (Keeps.ofBelow HB2.out))
        first
          | (go_roundg k
             case measure => omega
             case rel => exact Lib.hid ⟨by omega, HE.out, HKE.out, by rw [HR.out.2.2.2, HU.out]; rfl⟩)
          | (refine bodyPost_ret (results_none rfl _ _ _) rfl ?_
             refine ⟨rfl, ?_, HKE.out⟩
             rw [HR.out.2.2.2, HU.out, if_pos trivial, List.reverse_reverse]
             exact HE.out)

/-- with one name, laid there -/
theorem has1_si (h : SI w0 B tb sb ex T l w) (scope : Int) (x : ByteArray) :
    Calls Try.prog 28 #[.pointer (some ⟨sb, 0, none⟩), .int .i64 scope, .slice (some ⟨w.heap.size, 0, none⟩) 1 1] (w.alloc (.cells #[.string x] 9)) fun e w' => e = .returned (.bool (hasF T l scope [x])) ∧ Below w.heap.size w w' := by
  have hb := (Below.refl w.heap.size w).alloc (Nat.le_refl _) (.cells #[.string x] 9)
  refine (Has_si (h.world hb) scope [x] (some ⟨w.heap.size, 0, none⟩) 1 (at_alloc rfl rfl) (by simp)).mono ?_
  rintro e w' ⟨he, hb'⟩
  exact ⟨he, belowCall hb hb'⟩
theorem SI.lay (h : SI w0 B tb sb ex T l w) (o : Obj) : SI w0 B tb sb (fun k => ex k ∨ k = w.heap.size) T l (w.alloc o) :=
  h.foreign (F := fun _ => False) (Keeps.ofBelow ((Below.refl _ _).alloc (Nat.le_refl _) o)) (fun _ h => h.elim) fun k hk => by
    rcases hk with hk | hk
    · refine ⟨.inl hk, ?_⟩
      obtain ⟨g, gs, far, h1, h2, h3, h4, h5⟩ := h
      have := (h1.tree.far_lt k (h4 k hk)).1
      simp; omega
    · exact ⟨.inr (by omega), by simp; omega⟩
theorem SI.less {ex' : Nat → Prop} (h : SI w0 B tb sb ex T l w) (he : ∀ k, ex' k → ex k) : SI w0 B tb sb ex' T l w := by
  obtain ⟨g, gs, far, h1, h2, h3, h4, h5⟩ := h
  exact ⟨g, gs, far, h1, h2, fun k hk => ⟨(h3 k hk).1, (h3 k hk).2.1, fun hx => (h3 k hk).2.2 (he k hx)⟩, fun k hk => h4 k (he k hk), h5⟩
theorem until1_si (h : SI w0 B tb sb ex T l w) (x : ByteArray) :
    Calls Try.prog 30 #[.pointer (some ⟨sb, 0, none⟩), .slice (some ⟨w.heap.size, 0, none⟩) 1 1] (w.alloc (.cells #[.string x] 9)) fun e w' => e = .returned (.tuple #[]) ∧ SI w0 B tb sb ex T (untilF T [x] l.reverse).reverse w' ∧ Keeps (Own w0 ex) w w' := by
  have hA : At (w.alloc (.cells #[.string x] 9)) (some ⟨w.heap.size, 0, none⟩) (strsV [x]) := at_alloc rfl rfl
  refine (Until_si (h.lay (.cells #[.string x] 9)) [x] (some ⟨w.heap.size, 0, none⟩) 1 (AtF.of_new hA ?_) (by simp)).mono ?_
  · intro b o s he
    cases he
    exact fun hx => hx.2 (.inr rfl)
  · rintro e w' ⟨he, hs, hk⟩
    exact ⟨he, hs.less fun k hk => .inl hk, (((Keeps.refl (Own w0 ex) w).alloc _).trans (hk.mono fun k _ hk => ⟨hk.1, fun hx => hk.2 (.inl hx)⟩))⟩
end
end Go.Proofs.Ytidbihdnginmcaa
