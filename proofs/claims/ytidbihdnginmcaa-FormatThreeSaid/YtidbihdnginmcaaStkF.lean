/-
  A tree and its open elements side by side, through a law's calls: what holds of both, and each call's contract in that form. (Beside them blocks of other things may lie, that are left alone.)
-/
import Derived.Test.YtidbihdnginmcaaStkE
import Derived.Test.YtidbihdnginmcaaOpenN
import Derived.Test.YtidbihdnginmcaaOpenP
import Derived.Test.YtidbihdnginmcaaOpenV
import Derived.Test.YtidbihdnginmcaaTreeFar
namespace Go.Proofs.Ytidbihdnginmcaa
open Go.RowKit Mem

def farW (F : Nat → Prop) (T : TreeD) : TreeD := ⟨T.nodes, T.most, F⟩
theorem mkF_farW (F : Nat → Prop) (T : TreeD) (d : ND) : mkF (farW F T) d = (farW F (mkF T d).1, (mkF T d).2) := by
  unfold mkF
  by_cases h : (T.nodes.length : Int) - 1 < T.most
  · rw [if_pos h, if_pos (show ((farW F T).nodes.length : Int) - 1 < (farW F T).most from h)]
    rfl
  · rw [if_neg h, if_neg (show ¬ ((farW F T).nodes.length : Int) - 1 < (farW F T).most from h)]
theorem likeF_farW (F : Nat → Prop) (T : TreeD) (n : Int) : likeF (farW F T) n = (farW F (likeF T n).1, (likeF T n).2) := by
  unfold likeF
  have he : elemF (farW F T) n = elemF T n := rfl
  rw [he]
  cases elemF T n
  · rfl
  · exact mkF_farW F T _
theorem belowF_farW (F : Nat → Prop) (T : TreeD) (n top : Int) : belowF (farW F T) n top = belowF T n top := by
  rw [Bool.eq_iff_iff]
  simp only [belowF, decide_eq_true_eq, reachV]
  rfl
theorem kidsOff_farW (F : Nat → Prop) (T : TreeD) (n : Int) : kidsOff (farW F T) n = farW F (kidsOff T n) := by
  unfold kidsOff
  have hp : parentF (farW F T) n = parentF T n := rfl
  rw [hp]
  split <;> rfl
theorem takeF_farW (F : Nat → Prop) (T : TreeD) (n : Int) : takeF (farW F T) n = farW F (takeF T n) := by rw [takeF, kidsOff_farW]; rfl
theorem takeE_farW (F : Nat → Prop) (T : TreeD) (n : Int) : takeE (farW F T) n = (farW F (takeE T n).1, (takeE T n).2) := by
  unfold takeE
  have he : isF (farW F T) n = isF T n := rfl
  rw [he, takeF_farW]
  split <;> rfl
theorem putE_farW (F : Nat → Prop) (T : TreeD) (a b n : Int) : putE (farW F T) a b n = (farW F (putE T a b n).1, (putE T a b n).2) := by
  unfold putE
  have he : putOk (farW F T) a b n = putOk T a b n := by
    unfold putOk
    rw [belowF_farW]
    rfl
  rw [he]
  split
  · rw [putF, takeF_farW]; rfl
  · rfl
theorem textE_farW (F : Nat → Prop) (T : TreeD) (a b : Int) (s : ByteArray) : textE (farW F T) a b s = (farW F (textE T a b s).1, (textE T a b s).2) := by
  unfold textE
  have h1 : holdsF (farW F T) a = holdsF T a := rfl
  have h2 : placeF (farW F T) a b = placeF T a b := rfl
  rw [h1, h2]
  split
  · split
    · rfl
    · unfold textAt
      rw [h2]
      have h3 : ∀ i, elemF (farW F T) (prevF (farW F T) a i) = elemF T (prevF T a i) := fun _ => rfl
      have h4 : (farW F T).nodes.length = T.nodes.length := rfl
      have h5 : (farW F T).most = T.most := rfl
      simp only [h3, h4, h5]
      split
      · rfl
      · split <;> rfl
  · rfl
theorem moveF_farW (F : Nat → Prop) (b : Int) : ∀ (l : List Int) (T : TreeD), moveF (farW F T) b l = farW F (moveF T b l)
  | [], _ => rfl
  | x :: r, T => by
    show moveF (putE (farW F T) b 0 x).1 b r = farW F (moveF (putE T b 0 x).1 b r)
    rw [putE_farW]
    exact moveF_farW F b r _
theorem moveE_farW (F : Nat → Prop) (T : TreeD) (a b : Int) : moveE (farW F T) a b = (farW F (moveE T a b).1, (moveE T a b).2) := by
  unfold moveE
  have h1 : ∀ x, holdsF (farW F T) x = holdsF T x := fun _ => rfl
  have h2 : kidsF (farW F T) a = kidsF T a := rfl
  rw [h1, h1, h2, belowF_farW, moveF_farW]
  split <;> rfl

/-- the blocks of a law that are none of ex -/
def Own (w0 : World) (ex : Nat → Prop) : Nat → Prop := fun k => w0.heap.size ≤ k ∧ ¬ ex k

/-- a tree (up to what it avoids) and its open elements; ex: blocks of other things -/
def SI (w0 : World) (B tb sb : Nat) (ex : Nat → Prop) (T : TreeD) (l : List Int) (w : World) : Prop :=
  ∃ g gs far, TI w0 B tb (farW far T) g w ∧ StkO w sb tb gs l ∧ (∀ k, SB sb gs k → far k ∧ w0.heap.size ≤ k ∧ ¬ ex k) ∧ (∀ k, ex k → far k) ∧ l.length ≤ 1000000

section
variable {w0 w w' : World} {B B' tb sb : Nat} {ex : Nat → Prop} {T T' : TreeD} {l : List Int}
theorem SI.wf (h : SI w0 B tb sb ex T l w) : WF T := by
  obtain ⟨g, gs, far, h1, _⟩ := h
  exact ⟨h1.wf.pos, h1.wf.root, h1.wf.par, h1.wf.kid, h1.wf.mem, h1.wf.nodup, (by
    obtain ⟨r, hr⟩ := h1.wf.rank
    exact ⟨r, hr⟩), h1.wf.holds⟩
theorem SI.len (h : SI w0 B tb sb ex T l w) : T.nodes.length ≤ 1000000 := by
  obtain ⟨g, gs, far, h1, _⟩ := h
  exact h1.len
theorem SI.short (h : SI w0 B tb sb ex T l w) : l.length ≤ 1000000 := by
  obtain ⟨g, gs, far, _, _, _, _, h1⟩ := h
  exact h1
theorem SI.below (h : SI w0 B tb sb ex T l w) : Below w0.heap.size w0 w := by
  obtain ⟨g, gs, far, h1, _⟩ := h
  exact h1.below
theorem SI.more (h : SI w0 B tb sb ex T l w) (hB : B ≤ B') : SI w0 B' tb sb ex T l w := by
  obtain ⟨g, gs, far, h1, h2⟩ := h
  exact ⟨g, gs, far, h1.more hB, h2⟩
theorem SI.tree_step {far : Nat → Prop} {g g' : Nat} {gs : Option Nat} (h1 : TI w0 B tb (farW far T) g w) (h2 : StkO w sb tb gs l) (h3 : ∀ k, SB sb gs k → far k ∧ w0.heap.size ≤ k ∧ ¬ ex k) (h4 : ∀ k, ex k → far k) (h5 : l.length ≤ 1000000)
    (hk : Keeps (Two tb g) w w') (ht : TI w0 B' tb (farW far T') g' w') : SI w0 B' tb sb ex T' l w' ∧ Keeps (Own w0 ex) w w' := by
  have hf := h1.tree.far_lt
  refine ⟨⟨g', gs, far, ht, h2.kept hk fun k hk' => ?_, h3, h4, h5⟩, hk.mono fun k _ hk' => ?_⟩
  · obtain ⟨_, q1, q2⟩ := hf k (h3 k hk').1
    rintro (e | e)
    · exact q1 e
    · exact q2 e
  · rcases hk' with e | e
    · rw [e]
      exact ⟨h1.htb, fun hx => (hf tb (h4 tb hx)).2.1 rfl⟩
    · rw [e]
      exact ⟨h1.hg, fun hx => (hf g (h4 g hx)).2.2 rfl⟩
theorem SI.world (h : SI w0 B tb sb ex T l w) (hb : Below w.heap.size w w') : SI w0 B tb sb ex T l w' := by
  obtain ⟨g, gs, far, h1, h2, h3⟩ := h
  exact ⟨g, gs, far, h1.world hb, h2.below hb, h3⟩
/-- a call on other things -/
theorem SI.foreign {ex' : Nat → Prop} (h : SI w0 B tb sb ex T l w) {F : Nat → Prop} (hk : Keeps F w w') (hF : ∀ k, F k → ex k ∧ w0.heap.size ≤ k) (he : ∀ k, ex' k → (ex k ∨ w.heap.size ≤ k) ∧ k < w'.heap.size) : SI w0 B tb sb ex' T l w' := by
  obtain ⟨g, gs, far, h1, h2, h3, h4, h5⟩ := h
  have hlt := h2.lt
  have hT : TreeO w' tb g (farW (fun k => far k ∨ ex' k) T) := h1.tree.foreign hk (fun k hk' => h4 k (hF k hk').1) (fun k hk' => by
    rcases hk' with hk' | hk'
    · exact ⟨.inl hk', Nat.lt_of_lt_of_le (h1.tree.far_lt k hk').1 hk.size⟩
    · exact ⟨(he k hk').1.imp (h4 k) id, (he k hk').2⟩)
  refine ⟨g, gs, fun k => far k ∨ ex' k, ⟨hT, ?_, h1.below.trans (hk.below (fun k hk' hFk => by have := (hF k hFk).2; omega) h1.below.size), h1.htb, h1.hg, h1.len, h1.most, h1.att, h1.txt⟩, h2.kept hk fun k hk' hFk => (h3 k hk').2.2 (hF k hFk).1, ?_, fun k hk' => .inr hk', h5⟩
  · have hw := h1.wf
    exact ⟨hw.pos, hw.root, hw.par, hw.kid, hw.mem, hw.nodup, (by
      obtain ⟨r, hr⟩ := hw.rank
      exact ⟨r, hr⟩), hw.holds⟩
  · intro k hk'
    obtain ⟨q1, q2, q3⟩ := h3 k hk'
    refine ⟨.inl q1, q2, fun hx => ?_⟩
    rcases (he k hx).1 with e | e
    · exact q3 e
    · have := hlt k hk'; omega
/-- a call on the open elements -/
theorem SI.stk_step {far : Nat → Prop} {g : Nat} {gs gs' : Option Nat} {l' : List Int} (h1 : TI w0 B tb (farW far T) g w) (h3 : ∀ k, SB sb gs k → far k ∧ w0.heap.size ≤ k ∧ ¬ ex k) (h4 : ∀ k, ex k → far k) (h5 : l'.length ≤ 1000000)
    (hk : Keeps (SB sb gs) w w') (hs : StkO w' sb tb gs' l') (hg : ∀ k, gs' = some k → gs = some k ∨ w.heap.size ≤ k) : SI w0 B tb sb ex T l' w' ∧ Keeps (Own w0 ex) w w' := by
  have hlt := hs.lt
  have hT : TreeO w' tb g (farW (fun k => far k ∨ SB sb gs' k) T) := h1.tree.foreign hk (fun k hk' => (h3 k hk').1) (fun k hk' => by
    rcases hk' with hk' | hk'
    · exact ⟨.inl hk', Nat.lt_of_lt_of_le (h1.tree.far_lt k hk').1 hk.size⟩
    · refine ⟨?_, hlt k hk'⟩
      rcases hk' with e | e
      · exact .inl (h3 k (.inl e)).1
      · exact (hg k e).imp (fun e => (h3 k (.inr e)).1) id)
  refine ⟨⟨g, gs', fun k => far k ∨ SB sb gs' k, ⟨hT, ?_, h1.below.trans (hk.below (fun k hk' hFk => by have := (h3 k hFk).2.1; omega) h1.below.size), h1.htb, h1.hg, h1.len, h1.most, h1.att, h1.txt⟩, hs, ?_, fun k hk' => .inl (h4 k hk'), h5⟩, hk.mono fun k _ hk' => (h3 k hk').2⟩
  · have hw := h1.wf
    exact ⟨hw.pos, hw.root, hw.par, hw.kid, hw.mem, hw.nodup, (by
      obtain ⟨r, hr⟩ := hw.rank
      exact ⟨r, hr⟩), hw.holds⟩
  · intro k hk'
    refine ⟨.inr hk', ?_⟩
    rcases hk' with e | e
    · exact (h3 k (.inl e)).2
    · rcases hg k e with e' | e'
      · exact (h3 k (.inr e')).2
      · have hs := h1.below.size
        refine ⟨by omega, fun hx => ?_⟩
        have := (h1.tree.far_lt k (h4 k hx)).1
        omega

theorem Elem_si (h : SI w0 B tb sb ex T l w) (sp : Int) (nm : ByteArray) (at' : List Pair) (n : Nat) (a : Option Addr) (c : Nat) (hnl : n = at'.length) (hc : a = none → c = 0) (hlen : at'.length ≤ 1048576) (ha : At w a (pairsV at')) :
    Calls Try.prog 26 #[.pointer (some ⟨tb, 0, none⟩), .int .i64 sp, .string nm, .slice a n c] w fun e w' =>
      e = .returned (.tuple #[.int .i64 (mkF T (elemN sp nm at')).2.1, .int .i64 (mkF T (elemN sp nm at')).2.2]) ∧ SI w0 B tb sb ex (mkF T (elemN sp nm at')).1 l w' ∧ Keeps (Own w0 ex) w w' := by
  obtain ⟨g, gs, far, h1, h2, h3, h4, h5⟩ := h
  refine (Elem_ti h1 sp nm at' n a c hnl hc hlen ha).mono ?_
  rw [mkF_farW]
  rintro e w' ⟨he, hk, g', ht⟩
  obtain ⟨q1, q2⟩ := SI.tree_step h1 h2 h3 h4 h5 hk ht
  exact ⟨he, q1, q2⟩
theorem Like_si (h : SI w0 B tb sb ex T l w) (n : Int) :
    Calls Try.prog 50 #[.pointer (some ⟨tb, 0, none⟩), .int .i64 n] w fun e w' =>
      e = .returned (.tuple #[.int .i64 (likeF T n).2.1, .int .i64 (likeF T n).2.2]) ∧ SI w0 B tb sb ex (likeF T n).1 l w' ∧ Keeps (Own w0 ex) w w' := by
  obtain ⟨g, gs, far, h1, h2, h3, h4, h5⟩ := h
  refine (Like_ti h1 n).mono ?_
  rw [likeF_farW]
  rintro e w' ⟨he, hk, g', ht⟩
  obtain ⟨q1, q2⟩ := SI.tree_step h1 h2 h3 h4 h5 hk ht
  exact ⟨he, q1, q2⟩
theorem Put_si (h : SI w0 B tb sb ex T l w) (a b n : Int) :
    Calls Try.prog 46 #[.pointer (some ⟨tb, 0, none⟩), .int .i64 a, .int .i64 b, .int .i64 n] w fun e w' =>
      e = .returned (.int .i64 (putE T a b n).2) ∧ SI w0 B tb sb ex (putE T a b n).1 l w' ∧ Keeps (Own w0 ex) w w' := by
  obtain ⟨g, gs, far, h1, h2, h3, h4, h5⟩ := h
  refine (Put_ti h1 a b n).mono ?_
  rw [putE_farW]
  rintro e w' ⟨he, hk, ht⟩
  obtain ⟨q1, q2⟩ := SI.tree_step h1 h2 h3 h4 h5 hk ht
  exact ⟨he, q1, q2⟩
theorem Take_si (h : SI w0 B tb sb ex T l w) (n : Int) :
    Calls Try.prog 18 #[.pointer (some ⟨tb, 0, none⟩), .int .i64 n] w fun e w' =>
      e = .returned (.int .i64 (takeE T n).2) ∧ SI w0 B tb sb ex (takeE T n).1 l w' ∧ Keeps (Own w0 ex) w w' := by
  obtain ⟨g, gs, far, h1, h2, h3, h4, h5⟩ := h
  refine (Take_ti h1 n).mono ?_
  rw [takeE_farW]
  rintro e w' ⟨he, hk, ht⟩
  obtain ⟨q1, q2⟩ := SI.tree_step h1 h2 h3 h4 h5 hk ht
  exact ⟨he, q1, q2⟩
theorem Move_si (h : SI w0 B tb sb ex T l w) (a b : Int) :
    Calls Try.prog 15 #[.pointer (some ⟨tb, 0, none⟩), .int .i64 a, .int .i64 b] w fun e w' =>
      e = .returned (.int .i64 (moveE T a b).2) ∧ SI w0 B tb sb ex (moveE T a b).1 l w' ∧ Keeps (Own w0 ex) w w' := by
  obtain ⟨g, gs, far, h1, h2, h3, h4, h5⟩ := h
  refine (Move_ti h1 a b).mono ?_
  rw [moveE_farW]
  rintro e w' ⟨he, hk, ht⟩
  obtain ⟨q1, q2⟩ := SI.tree_step h1 h2 h3 h4 h5 hk ht
  exact ⟨he, q1, q2⟩
theorem Text_si (h : SI w0 B tb sb ex T l w) (a b : Int) (s : ByteArray) {B' : Nat} (hB : B + s.size ≤ B') (hB' : B' ≤ 9223372036854775807) :
    Calls Try.prog 47 #[.pointer (some ⟨tb, 0, none⟩), .int .i64 a, .int .i64 b, .string s] w fun e w' =>
      e = .returned (.int .i64 (textE T a b s).2) ∧ SI w0 B' tb sb ex (textE T a b s).1 l w' ∧ Keeps (Own w0 ex) w w' := by
  obtain ⟨g, gs, far, h1, h2, h3, h4, h5⟩ := h
  refine (Text_ti h1 a b s hB hB').mono ?_
  rw [textE_farW]
  rintro e w' ⟨he, hk, g', ht⟩
  obtain ⟨q1, q2⟩ := SI.tree_step h1 h2 h3 h4 h5 hk ht
  exact ⟨he, q1, q2⟩
theorem Push_si (h : SI w0 B tb sb ex T l w) (n : Int) (hl : l.length < 1000000) :
    Calls Try.prog 27 #[.pointer (some ⟨sb, 0, none⟩), .int .i64 n] w fun e w' => e = .returned (.tuple #[]) ∧ SI w0 B tb sb ex T (l ++ [n]) w' ∧ Keeps (Own w0 ex) w w' := by
  obtain ⟨g, gs, far, h1, h2, h3, h4, h5⟩ := h
  refine (stk_push w sb tb gs l h2 n (by omega)).mono ?_
  rintro e w' ⟨he, g2, hs, hg, hk⟩
  obtain ⟨q1, q2⟩ := SI.stk_step h1 h3 h4 (by simp; omega) hk hs (fun k hk => by cases hk; exact hg)
  exact ⟨he, q1, q2⟩
theorem Pop_si (h : SI w0 B tb sb ex T l w) :
    Calls Try.prog 67 #[.pointer (some ⟨sb, 0, none⟩)] w fun e w' => e = .returned (.int .i64 (l.getLast?.getD 0)) ∧ SI w0 B tb sb ex T l.dropLast w' ∧ Keeps (Own w0 ex) w w' := by
  obtain ⟨g, gs, far, h1, h2, h3, h4, h5⟩ := h
  refine (stk_pop w sb tb gs l h2 (by omega)).mono ?_
  rintro e w' ⟨he, hs, hk⟩
  obtain ⟨q1, q2⟩ := SI.stk_step h1 h3 h4 (by simp; omega) hk hs (fun k hk => .inl hk)
  exact ⟨he, q1, q2⟩
theorem Top_si (h : SI w0 B tb sb ex T l w) : Calls Try.prog 33 #[.pointer (some ⟨sb, 0, none⟩)] w fun e w' => e = .returned (.int .i64 (l.getLast?.getD 0)) ∧ ∃ q, w' = w.drewN q := by
  obtain ⟨g, gs, far, h1, h2, h3, h4, h5⟩ := h
  exact stk_top w sb tb gs l h2 (by omega)
theorem Find_si (h : SI w0 B tb sb ex T l w) (n : Int) : Calls Try.prog 82 #[.pointer (some ⟨sb, 0, none⟩), .int .i64 n] w fun e w' => e = .returned (.int .i64 (rfind l n)) ∧ w = w' := by
  obtain ⟨g, gs, far, h1, h2, h3, h4, h5⟩ := h
  exact stk_find w sb tb gs l h2 n (by omega)
theorem All_si (h : SI w0 B tb sb ex T l w) : Calls Try.prog 31 #[.pointer (some ⟨sb, 0, none⟩)] w fun e w' => ∃ v, e = .returned v ∧ w'.ownsRow w.heap.size 3 1 v l.length (intsV l) ∧ Below w.heap.size w w' := by
  obtain ⟨g, gs, far, h1, h2, h3, h4, h5⟩ := h
  exact stk_all w sb tb gs l h2 (by omega)
theorem named_si (h : SI w0 B tb sb ex T l w) (n : Int) (names : List ByteArray) (a : Option Addr) (c : Nat) (ha : At w a (strsV names)) (hl : names.length ≤ 1048576) :
    Calls Try.prog 65 #[.pointer (some ⟨sb, 0, none⟩), .int .i64 n, .slice a names.length c] w fun e w' => e = .returned (.bool (namedF T n names)) ∧ Below w.heap.size w w' := by
  obtain ⟨g, gs, far, h1, h2, h3, h4, h5⟩ := h
  exact snamed_any (farW far T) w sb tb g gs l h2 h1.tree h1.atti n names a c ha hl
theorem Has_si (h : SI w0 B tb sb ex T l w) (scope : Int) (names : List ByteArray) (a : Option Addr) (c : Nat) (ha : At w a (strsV names)) (hn : names.length ≤ 1048576) :
    Calls Try.prog 28 #[.pointer (some ⟨sb, 0, none⟩), .int .i64 scope, .slice a names.length c] w fun e w' => e = .returned (.bool (hasF T l scope names)) ∧ Below w.heap.size w w' := by
  obtain ⟨g, gs, far, h1, h2, h3, h4, h5⟩ := h
  exact Has_any (farW far T) w sb tb g gs l h2 h1.tree h1.atti (by omega) scope names a c ha hn
theorem HasNode_si (h : SI w0 B tb sb ex T l w) (m : Int) :
    Calls Try.prog 29 #[.pointer (some ⟨sb, 0, none⟩), .int .i64 m] w fun e w' => e = .returned (.bool (hasNodeF T l m)) ∧ Below w.heap.size w w' := by
  obtain ⟨g, gs, far, h1, h2, h3, h4, h5⟩ := h
  exact HasNode_any (farW far T) w sb tb g gs l h2 h1.tree h1.atti (by omega) m
theorem What_si (h : SI w0 B tb sb ex T l w) (n : Int) :
    Calls Try.prog 43 #[.pointer (some ⟨tb, 0, none⟩), .int .i64 n] w fun e w' => ∃ v, e = .returned (.tuple #[.int .i64 (spaceQ T n), .string (nameQ T n), v]) ∧
      w'.ownsRow w.heap.size 81 2 v (attrsQ T n).length (pairsV (attrsQ T n)) ∧ Below w.heap.size w w' := by
  obtain ⟨g, gs, far, h1, h2, h3, h4, h5⟩ := h
  exact What_any (farW far T) tb g w n h1.atti h1.tree
theorem stack_si {g : Nat} (h : TI w0 B tb T g w) : Calls Try.prog 25 #[.pointer (some ⟨tb, 0, none⟩)] w fun e w' => ∃ sb, e = .returned (.pointer (some ⟨sb, 0, none⟩)) ∧ SI w0 B tb sb (fun _ => False) T [] w' ∧ w.heap.size ≤ sb ∧ Below w.heap.size w w' := by
  refine (stk_new w tb).mono ?_
  rintro e w' ⟨he, hs, hb, hlt⟩
  refine ⟨w.heap.size, he, ⟨g, none, fun k => T.far k ∨ k = w.heap.size, ?_, hs, ?_, fun _ h => h.elim, Nat.zero_le _⟩, Nat.le_refl _, hb⟩
  · have hw := h.wf
    refine ⟨h.tree.foreign (F := fun _ => False) (Keeps.ofBelow hb) (fun _ h => h.elim) fun k hk => ?_, ⟨hw.pos, hw.root, hw.par, hw.kid, hw.mem, hw.nodup, (by
      obtain ⟨r, hr⟩ := hw.rank
      exact ⟨r, hr⟩), hw.holds⟩, h.below.trans (hb.mono h.below.size), h.htb, h.hg, h.len, h.most, h.att, h.txt⟩
    rcases hk with hk | hk
    · exact ⟨.inl hk, Nat.lt_of_lt_of_le (h.tree.far_lt k hk).1 hb.size⟩
    · exact ⟨.inr (Nat.le_of_eq hk.symm), by omega⟩
  · rintro k (rfl | hk)
    · exact ⟨.inr rfl, h.below.size, fun h => h⟩
    · cases hk
end
end Go.Proofs.Ytidbihdnginmcaa
