import Derived.Test.YtclflmjpdglgiaaGreatOpenRS
import Derived.Deep.RegionHeld3
import Derived.Test.YtclflmjpdglgiaaGreatOpenLV
import Derived.Test.YtclflmjpdglgiaaGreatRfQQ
import Derived.Deep.LoopGhost
/-
  Contracts: the open elements' search (of any function value that only reads), Has, HasNode.
-/
namespace Go.Proofs.YtclflmjpdglgiaaGreat
open Go.RowKit Mem

theorem searchF_step (p stop : Int → Bool) (l : List Int) (k : Nat) (h : k < l.length) : searchF p stop (l.take (k + 1)).reverse = (p l[k] || (!stop l[k] && searchF p stop (l.take k).reverse)) := by
  rw [List.take_succ_eq_append_getElem h, List.reverse_append]
  rfl

/-- two cells of a stack and one of its row, in a later world -/
theorem keepS3 {u u' : World} {sb tb b o : Nat} {v x : Value} (hb : Below u.heap.size u u') (h : u.cell? ⟨sb, 0, none⟩ = some (.pointer (some ⟨tb, 0, none⟩)) ∧ u.cell? ⟨sb, 1, none⟩ = some v ∧ u.cell? ⟨b, o, none⟩ = some x) :
    u'.cell? ⟨sb, 0, none⟩ = some (.pointer (some ⟨tb, 0, none⟩)) ∧ u'.cell? ⟨sb, 1, none⟩ = some v ∧ u'.cell? ⟨b, o, none⟩ = some x :=
  ⟨cell_later hb h.1, cell_later hb h.2.1, cell_later hb h.2.2⟩

section
variable (T : TreeD) (w : World) (sb tb g : Nat) (gs : Option Nat) (l : List Int)
set_option maxRecDepth 100000 in
set_option maxHeartbeats 4000000 in
theorem search_any (h : StkO w sb tb gs l) (hT : TreeO w tb g T) (hat : ∀ i (h : i < T.nodes.length), T.nodes[i].attrs.length ≤ 1048576) (hl : l.length ≤ 1048576) (scope : Int) (f : Nat) (lb : Array Value) (ef : ∀ args w, (callFunc f args).run Tryz.prog w = .ok (.enter f args) w)
    (p : Int → Bool) (hp : ∀ W x, Below w.heap.size w W → Calls Tryz.prog f (#[.int .i64 x] ++ lb) W fun e w' => e = .returned (.bool (p x)) ∧ Below W.heap.size W w') :
    Calls Tryz.prog 86 #[.pointer (some ⟨sb, 0, none⟩), .int .i64 scope, .func (.func f) #[] lb] w fun e w' => e = .returned (.bool (searchF p (stopF T scope) l.reverse)) ∧ Below w.heap.size w w' := by
  have HS := Lib.hid h
  have HT := Lib.hid hT
  have HP := Lib.hid hp
  have HAt := Lib.hid hat
  obtain ⟨a, c, c0, c1, hA, _⟩ := h.cells
  have HA := Lib.hid hA
  clear h hT hp hat hA
  go_enter Tryz.func86, Tryz.ntmps86
  go_wp2_with fail
  go_loopw [7] (fun i wr => ∃ k : Nat, k ≤ l.length ∧ i = .int .i64 ((k : Int) - 1) ∧ Below w.heap.size w wr ∧ searchF p (stopF T scope) l.reverse = searchF p (stopF T scope) (l.take k).reverse) (fun i _ => (intOf i + 1).toNat)
  case atStart => exact ⟨l.length, Nat.le_refl _, rfl, Below.refl _ _, by rw [List.take_of_length_le (Nat.le_refl _)]⟩
  case round =>
    obtain ⟨k, hk, rfl, hb, hv⟩ := hrel
    have HB := Lib.hid hb
    have HV := Lib.hid hv
    clear hv
    cases k with
    | zero =>
      clear hb
      go_wp2_with fail
      go_ret
      exact ⟨ret_bool (by rw [HV.out]; rfl), HB.out⟩
    | succ k =>
      have hlt : k < l.length := by omega
      obtain ⟨bb, o, rfl⟩ := HA.out.some_of (by intro h; have := congrArg List.length h; rw [intsV_length, List.length_nil] at this; omega)
      have hx := cell_later hb (HA.out.get (intsV_get l k hlt))
      have d0 := cell_later hb c0
      have d1 := cell_later hb c1
      have e1 : ((k + 1 : Nat) : Int) - 1 = (k : Int) := by omega
      rw [e1]
      have HF := Lib.hid (HP.out wr l[k] hb)
      have HST := Lib.hid (searchF_step p (stopF T scope) l k hlt)
      obtain ⟨x, hxx⟩ : ∃ x, x = l[k] := ⟨_, rfl⟩
      rw [← hxx] at hx HF HST
      clear hb hxx
      cases hpx : p x
      · rw [hpx] at HF HST
        go_wp2_with (go_at_fn f; go_must (refine HF.out.mono ?_; rintro e w1 ⟨rfl, hb1⟩; have z0 := cell_later hb1 d0; have z1 := cell_later hb1 d1; have zx := cell_later hb1 hx; have HB1 := Lib.hid hb1; clear hb1))
        have HT1 := Lib.hid ((HT.out.below HB.out).below HB1.out)
        have HT1' := Lib.hid (HT1.out.below (stk_drewN w1 1))
        have HW := Lib.hid (What_any T tb g w1.drew x HAt.out HT1'.out)
        have q0 : w1.drew.cell? ⟨sb, 0, none⟩ = some (.pointer (some ⟨tb, 0, none⟩)) := z0
        have q1 : w1.drew.cell? ⟨sb, 1, none⟩ = some (.slice (some ⟨bb, o, none⟩) l.length c) := z1
        have qx : w1.drew.cell? ⟨bb, o + k, none⟩ = some (.int .i64 x) := zx
        go_region_held3 (fun u => u.cell? ⟨sb, 0, none⟩ = some (.pointer (some ⟨tb, 0, none⟩)) ∧ u.cell? ⟨sb, 1, none⟩ = some (.slice (some ⟨bb, o, none⟩) l.length c) ∧ u.cell? ⟨bb, o + k, none⟩ = some (.int .i64 x))
          (first | exact ⟨q0, q1, qx⟩ | with_reducible exact keepS3 HB2.out ⟨q0, q1, qx⟩)
          (first | (go_at_call 40; go_must (refine HW.out.mono ?_; rintro e w2 ⟨v, rfl, _, hb2⟩; have HB2 := Lib.hid hb2; clear hb2)))
        have r0 := cell_later HB2.out q0
        have r1 := cell_later HB2.out q1
        have rx := cell_later HB2.out qx
        have HT2 := Lib.hid (HT1'.out.below HB2.out)
        have HBw := Lib.hid (belowCall (belowCall HB.out HB1.out).drew HB2.out)
        clear z0 z1 zx q0 q1 qx HW d0 d1 hx
        have HE : Hid (∀ u, TreeO u tb g T → Calls Tryz.prog 74 #[.pointer (some ⟨tb, 0, none⟩), .int .i64 x] u fun e w' => e = .returned (.bool (elemF T x)) ∧ u = w') := Lib.hid (fun u hu => elem_any T tb g u x hu)
        have HBo : Hid (∀ u, Calls Tryz.prog 112 #[.int .i64 scope, .int .i64 (spaceQ T x), .string (nameQ T x)] u fun e w' => e = .returned (.bool (boundsF scope (spaceQ T x) (nameQ T x))) ∧ u = w') := Lib.hid (fun u => Bounds_any scope _ _ u)
        have HSt : Hid (stopF T scope x = (elemF T x && boundsF scope (spaceQ T x) (nameQ T x))) := Lib.hid rfl
        generalize spaceQ T x = xs at *
        generalize nameQ T x = xn at *
        cases hel : elemF T x <;> cases hbo : boundsF scope xs xn
        all_goals
          rw [hel] at HE HSt
          rw [hbo] at HBo HSt
          go_wp2_with fail
          refine wp_region_calm (by kernel_rfl) (by kernel_rfl) ?_
          repeat
            with_reducible refine wpQuiet_step (fun K hK => ?_)
            first
              | (with_reducible apply calm_skip
                 · rfl
                 simp only [Act.put, List.setIfInBounds_toArray, List.set_cons_zero, List.set_cons_succ]
                 refine hK _ ?_
                 clear hK K)
              | (with_reducible apply calm_run
                 · rfl
                 · intro wq hC
                   have zr0 := cell_later hC.out r0
                   have zr1 := cell_later hC.out r1
                   have zrx := cell_later hC.out rx
                   unfold Oper.quietAt
                   go_simp
                   first | done | (go_at_call 74; go_must (refine (HE.out _ (HT2.out.below hC.out)).mono ?_; rintro e wx ⟨rfl, rfl⟩; exact ⟨rfl, hC⟩)) | (go_at_call 112; go_must (refine (HBo.out _).mono ?_; rintro e wx ⟨rfl, rfl⟩; exact ⟨rfl, hC⟩)) | with_reducible rfl | rfl
                 simp only [Act.put, List.setIfInBounds_toArray, List.set_cons_zero, List.set_cons_succ]
                 refine hK _ ?_
                 clear hK K)
          with_reducible refine wpQuiet_nil ?_
          intro wq HQ
          have zr0 := cell_later HQ.out r0
          have zr1 := cell_later HQ.out r1
          have zrx := cell_later HQ.out rx
          have HBx := Lib.hid (belowCall HBw.out HQ.out)
          go_wp2_with fail
          first
            | (go_round
               case rel => exact ⟨k, by omega, by go_num, HBx.out, by rw [HV.out, HST.out, HSt.out]; rfl⟩
               case measure => simp [intOf])
            | (go_ret
               exact ⟨ret_bool (by rw [HV.out, HST.out, HSt.out]; rfl), HBx.out⟩)
      · rw [hpx] at HF HST
        go_wp2_with (go_at_fn f; go_must (refine HF.out.mono ?_; rintro e w1 ⟨rfl, hb1⟩; have HB1 := Lib.hid hb1; clear hb1))
        go_ret
        exact ⟨ret_bool (by rw [HV.out, HST.out]; rfl), belowCall HB.out HB1.out⟩
end
end Go.Proofs.YtclflmjpdglgiaaGreat

/-
  Contracts: the open elements' Has, HasNode, Until.
-/
namespace Go.Proofs.YtclflmjpdglgiaaGreat
open Go.RowKit Mem

section
variable (T : TreeD) (w : World) (sb tb g : Nat) (gs : Option Nat) (l : List Int)
theorem hasnode1_any (n m : Int) (b1 : Nat) (h1 : w.cell? ⟨b1, 0, none⟩ = some (.int .i64 m)) :
    Calls Tryz.prog 87 #[.int .i64 n, .pointer (some ⟨b1, 0, none⟩)] w fun e w' => e = .returned (.bool (n == m)) ∧ Below w.heap.size w w' := by
  go_enter Tryz.func87, Tryz.ntmps87
  go_wp2_with fail
  go_ret
  exact ⟨rfl, Below.refl _ _⟩

def hasF (T : TreeD) (l : List Int) (scope : Int) (names : List ByteArray) : Bool := searchF (fun x => namedF T x names) (stopF T scope) l.reverse
def hasNodeF (T : TreeD) (l : List Int) (m : Int) : Bool := searchF (fun x => x == m) (stopF T 0) l.reverse

set_option maxRecDepth 100000 in
theorem HasNode_any (h : StkO w sb tb gs l) (hT : TreeO w tb g T) (hat : ∀ i (h : i < T.nodes.length), T.nodes[i].attrs.length ≤ 1048576) (hl : l.length ≤ 1048576) (m : Int) :
    Calls Tryz.prog 52 #[.pointer (some ⟨sb, 0, none⟩), .int .i64 m] w fun e w' => e = .returned (.bool (hasNodeF T l m)) ∧ Below w.heap.size w w' := by
  have hb1 := ((Below.refl w.heap.size w).alloc (Nat.le_refl _) (.cells #[.int .i64 m] 3))
  have k1 := heap_alloc_new w (.cells #[.int .i64 m] 3)
  have HF := Lib.hid (search_any T (w.alloc (.cells #[.int .i64 m] 3)) sb tb g gs l (h.below hb1) (hT.below hb1) hat hl 0 87 #[.pointer (some ⟨w.heap.size, 0, none⟩)] (enters_of Tryz.func87 (by kernel_rfl) rfl)
    (fun x => x == m) (fun W x hW => hasnode1_any W x m w.heap.size (cell_later hW (cell_of_row _ _ 0 _ _ _ k1))))
  have HB2 := Lib.hid hb1
  clear h hT hat hb1 k1
  go_enter Tryz.func52, Tryz.ntmps52
  go_wp2_with (go_at_call 86; go_must (refine HF.out.mono ?_; rintro e w1 ⟨rfl, hb⟩; have HB := Lib.hid hb; clear hb))
  go_ret
  exact ⟨rfl, belowCall HB2.out HB.out⟩

/-- closed up to one of some names, that too -/
def untilF (T : TreeD) (names : List ByteArray) : List Int → List Int
  | [] => []
  | x :: r => if namedF T x names then r else untilF T names r
end
end Go.Proofs.YtclflmjpdglgiaaGreat

/-
  A tree and its open elements side by side, through a law's calls: what holds of both, and each call's contract in that form. (Beside them blocks of other things may lie, that are left alone.)
-/
namespace Go.Proofs.YtclflmjpdglgiaaGreat
open Go.RowKit Mem

/-- a tree (up to what it avoids) and its open elements; ex: blocks of other things -/
def SI (w0 : World) (B tb sb : Nat) (ex : Nat → Prop) (T : TreeD) (l : List Int) (w : World) : Prop :=
  ∃ g gs far, TI w0 B tb (farW far T) g w ∧ StkO w sb tb gs l ∧ (∀ k, SB sb gs k → far k ∧ w0.heap.size ≤ k ∧ ¬ ex k) ∧ (∀ k, ex k → far k) ∧ l.length ≤ 1000000

section
variable {w0 w w' : World} {B B' tb sb : Nat} {ex : Nat → Prop} {T T' : TreeD} {l : List Int}
theorem SI.wf (h : SI w0 B tb sb ex T l w) : WF T := by
  obtain ⟨g, gs, far, h1, _⟩ := h
  exact ⟨h1.wf.pos, h1.wf.root, h1.wf.par, h1.wf.kid, h1.wf.mem, h1.wf.nodup, (by
    obtain ⟨r, hr⟩ := h1.wf.rank
    exact ⟨r, hr⟩), h1.wf.holds⟩
theorem SI.len (h : SI w0 B tb sb ex T l w) : T.nodes.length ≤ 1000000 := by
  obtain ⟨g, gs, far, h1, _⟩ := h
  exact h1.len
theorem SI.short (h : SI w0 B tb sb ex T l w) : l.length ≤ 1000000 := by
  obtain ⟨g, gs, far, _, _, _, _, h1⟩ := h
  exact h1
theorem SI.below (h : SI w0 B tb sb ex T l w) : Below w0.heap.size w0 w := by
  obtain ⟨g, gs, far, h1, _⟩ := h
  exact h1.below
theorem SI.more (h : SI w0 B tb sb ex T l w) (hB : B ≤ B') : SI w0 B' tb sb ex T l w := by
  obtain ⟨g, gs, far, h1, h2⟩ := h
  exact ⟨g, gs, far, h1.more hB, h2⟩
theorem SI.tree_step {far : Nat → Prop} {g g' : Nat} {gs : Option Nat} (h1 : TI w0 B tb (farW far T) g w) (h2 : StkO w sb tb gs l) (h3 : ∀ k, SB sb gs k → far k ∧ w0.heap.size ≤ k ∧ ¬ ex k) (h4 : ∀ k, ex k → far k) (h5 : l.length ≤ 1000000)
    (hk : Keeps (Two tb g) w w') (ht : TI w0 B' tb (farW far T') g' w') : SI w0 B' tb sb ex T' l w' ∧ Keeps (Own w0 ex) w w' := by
  have hf := h1.tree.far_lt
  refine ⟨⟨g', gs, far, ht, h2.kept hk fun k hk' => ?_, h3, h4, h5⟩, hk.mono fun k _ hk' => ?_⟩
  · obtain ⟨_, q1, q2⟩ := hf k (h3 k hk').1
    rintro (e | e)
    · exact q1 e
    · exact q2 e
  · rcases hk' with e | e
    · rw [e]
      exact ⟨h1.htb, fun hx => (hf tb (h4 tb hx)).2.1 rfl⟩
    · rw [e]
      exact ⟨h1.hg, fun hx => (hf g (h4 g hx)).2.2 rfl⟩
theorem SI.world (h : SI w0 B tb sb ex T l w) (hb : Below w.heap.size w w') : SI w0 B tb sb ex T l w' := by
  obtain ⟨g, gs, far, h1, h2, h3⟩ := h
  exact ⟨g, gs, far, h1.world hb, h2.below hb, h3⟩
/-- a call on other things -/
theorem SI.foreign {ex' : Nat → Prop} (h : SI w0 B tb sb ex T l w) {F : Nat → Prop} (hk : Keeps F w w') (hF : ∀ k, F k → ex k ∧ w0.heap.size ≤ k) (he : ∀ k, ex' k → (ex k ∨ w.heap.size ≤ k) ∧ k < w'.heap.size) : SI w0 B tb sb ex' T l w' := by
  obtain ⟨g, gs, far, h1, h2, h3, h4, h5⟩ := h
  have hlt := h2.lt
  have hT : TreeO w' tb g (farW (fun k => far k ∨ ex' k) T) := h1.tree.foreign hk (fun k hk' => h4 k (hF k hk').1) (fun k hk' => by
    rcases hk' with hk' | hk'
    · exact ⟨.inl hk', Nat.lt_of_lt_of_le (h1.tree.far_lt k hk').1 hk.size⟩
    · exact ⟨(he k hk').1.imp (h4 k) id, (he k hk').2⟩)
  refine ⟨g, gs, fun k => far k ∨ ex' k, ⟨hT, ?_, h1.below.trans (hk.below (fun k hk' hFk => by have := (hF k hFk).2; omega) h1.below.size), h1.htb, h1.hg, h1.len, h1.most, h1.att, h1.txt⟩, h2.kept hk fun k hk' hFk => (h3 k hk').2.2 (hF k hFk).1, ?_, fun k hk' => .inr hk', h5⟩
  · have hw := h1.wf
    exact ⟨hw.pos, hw.root, hw.par, hw.kid, hw.mem, hw.nodup, (by
      obtain ⟨r, hr⟩ := hw.rank
      exact ⟨r, hr⟩), hw.holds⟩
  · intro k hk'
    obtain ⟨q1, q2, q3⟩ := h3 k hk'
    refine ⟨.inl q1, q2, fun hx => ?_⟩
    rcases (he k hx).1 with e | e
    · exact q3 e
    · have := hlt k hk'; omega
/-- a call on the open elements -/
theorem SI.stk_step {far : Nat → Prop} {g : Nat} {gs gs' : Option Nat} {l' : List Int} (h1 : TI w0 B tb (farW far T) g w) (h3 : ∀ k, SB sb gs k → far k ∧ w0.heap.size ≤ k ∧ ¬ ex k) (h4 : ∀ k, ex k → far k) (h5 : l'.length ≤ 1000000)
    (hk : Keeps (SB sb gs) w w') (hs : StkO w' sb tb gs' l') (hg : ∀ k, gs' = some k → gs = some k ∨ w.heap.size ≤ k) : SI w0 B tb sb ex T l' w' ∧ Keeps (Own w0 ex) w w' := by
  have hlt := hs.lt
  have hT : TreeO w' tb g (farW (fun k => far k ∨ SB sb gs' k) T) := h1.tree.foreign hk (fun k hk' => (h3 k hk').1) (fun k hk' => by
    rcases hk' with hk' | hk'
    · exact ⟨.inl hk', Nat.lt_of_lt_of_le (h1.tree.far_lt k hk').1 hk.size⟩
    · refine ⟨?_, hlt k hk'⟩
      rcases hk' with e | e
      · exact .inl (h3 k (.inl e)).1
      · exact (hg k e).imp (fun e => (h3 k (.inr e)).1) id)
  refine ⟨⟨g, gs', fun k => far k ∨ SB sb gs' k, ⟨hT, ?_, h1.below.trans (hk.below (fun k hk' hFk => by have := (h3 k hFk).2.1; omega) h1.below.size), h1.htb, h1.hg, h1.len, h1.most, h1.att, h1.txt⟩, hs, ?_, fun k hk' => .inl (h4 k hk'), h5⟩, hk.mono fun k _ hk' => (h3 k hk').2⟩
  · have hw := h1.wf
    exact ⟨hw.pos, hw.root, hw.par, hw.kid, hw.mem, hw.nodup, (by
      obtain ⟨r, hr⟩ := hw.rank
      exact ⟨r, hr⟩), hw.holds⟩
  · intro k hk'
    refine ⟨.inr hk', ?_⟩
    rcases hk' with e | e
    · exact (h3 k (.inl e)).2
    · rcases hg k e with e' | e'
      · exact (h3 k (.inr e')).2
      · have hs := h1.below.size
        refine ⟨by omega, fun hx => ?_⟩
        have := (h1.tree.far_lt k (h4 k hx)).1
        omega

theorem Elem_si (h : SI w0 B tb sb ex T l w) (sp : Int) (nm : ByteArray) (at' : List Pair) (n : Nat) (a : Option Addr) (c : Nat) (hnl : n = at'.length) (hc : a = none → c = 0) (hlen : at'.length ≤ 1048576) (ha : At w a (pairsV at')) :
    Calls Tryz.prog 41 #[.pointer (some ⟨tb, 0, none⟩), .int .i64 sp, .string nm, .slice a n c] w fun e w' =>
      e = .returned (.tuple #[.int .i64 (mkF T (elemN sp nm at')).2.1, .int .i64 (mkF T (elemN sp nm at')).2.2]) ∧ SI w0 B tb sb ex (mkF T (elemN sp nm at')).1 l w' ∧ Keeps (Own w0 ex) w w' := by
  obtain ⟨g, gs, far, h1, h2, h3, h4, h5⟩ := h
  refine (Elem_ti h1 sp nm at' n a c hnl hc hlen ha).mono ?_
  rw [mkF_farW]
  rintro e w' ⟨he, hk, g', ht⟩
  obtain ⟨q1, q2⟩ := SI.tree_step h1 h2 h3 h4 h5 hk ht
  exact ⟨he, q1, q2⟩
theorem Like_si (h : SI w0 B tb sb ex T l w) (n : Int) :
    Calls Tryz.prog 90 #[.pointer (some ⟨tb, 0, none⟩), .int .i64 n] w fun e w' =>
      e = .returned (.tuple #[.int .i64 (likeF T n).2.1, .int .i64 (likeF T n).2.2]) ∧ SI w0 B tb sb ex (likeF T n).1 l w' ∧ Keeps (Own w0 ex) w w' := by
  obtain ⟨g, gs, far, h1, h2, h3, h4, h5⟩ := h
  refine (Like_ti h1 n).mono ?_
  rw [likeF_farW]
  rintro e w' ⟨he, hk, g', ht⟩
  obtain ⟨q1, q2⟩ := SI.tree_step h1 h2 h3 h4 h5 hk ht
  exact ⟨he, q1, q2⟩
theorem Put_si (h : SI w0 B tb sb ex T l w) (a b n : Int) :
    Calls Tryz.prog 43 #[.pointer (some ⟨tb, 0, none⟩), .int .i64 a, .int .i64 b, .int .i64 n] w fun e w' =>
      e = .returned (.int .i64 (putE T a b n).2) ∧ SI w0 B tb sb ex (putE T a b n).1 l w' ∧ Keeps (Own w0 ex) w w' := by
  obtain ⟨g, gs, far, h1, h2, h3, h4, h5⟩ := h
  refine (Put_ti h1 a b n).mono ?_
  rw [putE_farW]
  rintro e w' ⟨he, hk, ht⟩
  obtain ⟨q1, q2⟩ := SI.tree_step h1 h2 h3 h4 h5 hk ht
  exact ⟨he, q1, q2⟩
theorem Take_si (h : SI w0 B tb sb ex T l w) (n : Int) :
    Calls Tryz.prog 72 #[.pointer (some ⟨tb, 0, none⟩), .int .i64 n] w fun e w' =>
      e = .returned (.int .i64 (takeE T n).2) ∧ SI w0 B tb sb ex (takeE T n).1 l w' ∧ Keeps (Own w0 ex) w w' := by
  obtain ⟨g, gs, far, h1, h2, h3, h4, h5⟩ := h
  refine (Take_ti h1 n).mono ?_
  rw [takeE_farW]
  rintro e w' ⟨he, hk, ht⟩
  obtain ⟨q1, q2⟩ := SI.tree_step h1 h2 h3 h4 h5 hk ht
  exact ⟨he, q1, q2⟩
theorem Move_si (h : SI w0 B tb sb ex T l w) (a b : Int) :
    Calls Tryz.prog 115 #[.pointer (some ⟨tb, 0, none⟩), .int .i64 a, .int .i64 b] w fun e w' =>
      e = .returned (.int .i64 (moveE T a b).2) ∧ SI w0 B tb sb ex (moveE T a b).1 l w' ∧ Keeps (Own w0 ex) w w' := by
  obtain ⟨g, gs, far, h1, h2, h3, h4, h5⟩ := h
  refine (Move_ti h1 a b).mono ?_
  rw [moveE_farW]
  rintro e w' ⟨he, hk, ht⟩
  obtain ⟨q1, q2⟩ := SI.tree_step h1 h2 h3 h4 h5 hk ht
  exact ⟨he, q1, q2⟩
theorem Text_si (h : SI w0 B tb sb ex T l w) (a b : Int) (s : ByteArray) {B' : Nat} (hB : B + s.size ≤ B') (hB' : B' ≤ 9223372036854775807) :
    Calls Tryz.prog 48 #[.pointer (some ⟨tb, 0, none⟩), .int .i64 a, .int .i64 b, .string s] w fun e w' =>
      e = .returned (.int .i64 (textE T a b s).2) ∧ SI w0 B' tb sb ex (textE T a b s).1 l w' ∧ Keeps (Own w0 ex) w w' := by
  obtain ⟨g, gs, far, h1, h2, h3, h4, h5⟩ := h
  refine (Text_ti h1 a b s hB hB').mono ?_
  rw [textE_farW]
  rintro e w' ⟨he, hk, g', ht⟩
  obtain ⟨q1, q2⟩ := SI.tree_step h1 h2 h3 h4 h5 hk ht
  exact ⟨he, q1, q2⟩
theorem Push_si (h : SI w0 B tb sb ex T l w) (n : Int) (hl : l.length < 1000000) :
    Calls Tryz.prog 44 #[.pointer (some ⟨sb, 0, none⟩), .int .i64 n] w fun e w' => e = .returned (.tuple #[]) ∧ SI w0 B tb sb ex T (l ++ [n]) w' ∧ Keeps (Own w0 ex) w w' := by
  obtain ⟨g, gs, far, h1, h2, h3, h4, h5⟩ := h
  refine (stk_push w sb tb gs l h2 n (by omega)).mono ?_
  rintro e w' ⟨he, g2, hs, hg, hk⟩
  obtain ⟨q1, q2⟩ := SI.stk_step h1 h3 h4 (by simp; omega) hk hs (fun k hk => by cases hk; exact hg)
  exact ⟨he, q1, q2⟩
theorem Pop_si (h : SI w0 B tb sb ex T l w) :
    Calls Tryz.prog 31 #[.pointer (some ⟨sb, 0, none⟩)] w fun e w' => e = .returned (.int .i64 (l.getLast?.getD 0)) ∧ SI w0 B tb sb ex T l.dropLast w' ∧ Keeps (Own w0 ex) w w' := by
  obtain ⟨g, gs, far, h1, h2, h3, h4, h5⟩ := h
  refine (stk_pop w sb tb gs l h2 (by omega)).mono ?_
  rintro e w' ⟨he, hs, hk⟩
  obtain ⟨q1, q2⟩ := SI.stk_step h1 h3 h4 (by simp; omega) hk hs (fun k hk => .inl hk)
  exact ⟨he, q1, q2⟩
theorem Top_si (h : SI w0 B tb sb ex T l w) : Calls Tryz.prog 21 #[.pointer (some ⟨sb, 0, none⟩)] w fun e w' => e = .returned (.int .i64 (l.getLast?.getD 0)) ∧ ∃ q, w' = w.drewN q := by
  obtain ⟨g, gs, far, h1, h2, h3, h4, h5⟩ := h
  exact stk_top w sb tb gs l h2 (by omega)
theorem Find_si (h : SI w0 B tb sb ex T l w) (n : Int) : Calls Tryz.prog 9 #[.pointer (some ⟨sb, 0, none⟩), .int .i64 n] w fun e w' => e = .returned (.int .i64 (rfind l n)) ∧ w = w' := by
  obtain ⟨g, gs, far, h1, h2, h3, h4, h5⟩ := h
  exact stk_find w sb tb gs l h2 n (by omega)
theorem All_si (h : SI w0 B tb sb ex T l w) : Calls Tryz.prog 8 #[.pointer (some ⟨sb, 0, none⟩)] w fun e w' => ∃ v, e = .returned v ∧ w'.ownsRow w.heap.size 3 1 v l.length (intsV l) ∧ Below w.heap.size w w' := by
  obtain ⟨g, gs, far, h1, h2, h3, h4, h5⟩ := h
  exact stk_all w sb tb gs l h2 (by omega)
theorem named_si (h : SI w0 B tb sb ex T l w) (n : Int) (names : List ByteArray) (a : Option Addr) (c : Nat) (ha : At w a (strsV names)) (hl : names.length ≤ 1048576) :
    Calls Tryz.prog 69 #[.pointer (some ⟨sb, 0, none⟩), .int .i64 n, .slice a names.length c] w fun e w' => e = .returned (.bool (namedF T n names)) ∧ Below w.heap.size w w' := by
  obtain ⟨g, gs, far, h1, h2, h3, h4, h5⟩ := h
  exact snamed_any (farW far T) w sb tb g gs l h2 h1.tree h1.atti n names a c ha hl
theorem HasNode_si (h : SI w0 B tb sb ex T l w) (m : Int) :
    Calls Tryz.prog 52 #[.pointer (some ⟨sb, 0, none⟩), .int .i64 m] w fun e w' => e = .returned (.bool (hasNodeF T l m)) ∧ Below w.heap.size w w' := by
  obtain ⟨g, gs, far, h1, h2, h3, h4, h5⟩ := h
  exact HasNode_any (farW far T) w sb tb g gs l h2 h1.tree h1.atti (by omega) m
theorem What_si (h : SI w0 B tb sb ex T l w) (n : Int) :
    Calls Tryz.prog 40 #[.pointer (some ⟨tb, 0, none⟩), .int .i64 n] w fun e w' => ∃ v, e = .returned (.tuple #[.int .i64 (spaceQ T n), .string (nameQ T n), v]) ∧
      w'.ownsRow w.heap.size 98 2 v (attrsQ T n).length (pairsV (attrsQ T n)) ∧ Below w.heap.size w w' := by
  obtain ⟨g, gs, far, h1, h2, h3, h4, h5⟩ := h
  exact What_any (farW far T) tb g w n h1.atti h1.tree
theorem stack_si {g : Nat} (h : TI w0 B tb T g w) : Calls Tryz.prog 14 #[.pointer (some ⟨tb, 0, none⟩)] w fun e w' => ∃ sb, e = .returned (.pointer (some ⟨sb, 0, none⟩)) ∧ SI w0 B tb sb (fun _ => False) T [] w' ∧ w.heap.size ≤ sb ∧ Below w.heap.size w w' := by
  refine (stk_new w tb).mono ?_
  rintro e w' ⟨he, hs, hb, hlt⟩
  refine ⟨w.heap.size, he, ⟨g, none, fun k => T.far k ∨ k = w.heap.size, ?_, hs, ?_, fun _ h => h.elim, Nat.zero_le _⟩, Nat.le_refl _, hb⟩
  · have hw := h.wf
    refine ⟨h.tree.foreign (F := fun _ => False) (Keeps.ofBelow hb) (fun _ h => h.elim) fun k hk => ?_, ⟨hw.pos, hw.root, hw.par, hw.kid, hw.mem, hw.nodup, (by
      obtain ⟨r, hr⟩ := hw.rank
      exact ⟨r, hr⟩), hw.holds⟩, h.below.trans (hb.mono h.below.size), h.htb, h.hg, h.len, h.most, h.att, h.txt⟩
    rcases hk with hk | hk
    · exact ⟨.inl hk, Nat.lt_of_lt_of_le (h.tree.far_lt k hk).1 hb.size⟩
    · exact ⟨.inr (Nat.le_of_eq hk.symm), by omega⟩
  · rintro k (rfl | hk)
    · exact ⟨.inr rfl, h.below.size, fun h => h⟩
    · cases hk
end
end Go.Proofs.YtclflmjpdglgiaaGreat

/-
  Contract: the open elements' Until, Clear, Imply beside a tree.
-/
namespace Go.Proofs.YtclflmjpdglgiaaGreat
open Go.RowKit Mem

section
variable {w0 w w' : World} {B B' tb sb : Nat} {ex : Nat → Prop} {T T' : TreeD} {l : List Int}
theorem SI.cells (h : SI w0 B tb sb ex T l w) : ∃ a c, w.cell? ⟨sb, 0, none⟩ = some (.pointer (some ⟨tb, 0, none⟩)) ∧ w.cell? ⟨sb, 1, none⟩ = some (.slice a l.length c) ∧ At w a (intsV l) := by
  obtain ⟨g, gs, far, h1, h2, h3, h4, h5⟩ := h
  obtain ⟨a, c, c0, c1, hA, _⟩ := h2.cells
  exact ⟨a, c, c0, c1, hA⟩
theorem take_last {l : List Int} {k : Nat} (h : k < l.length) : (l.take (k + 1)).getLast?.getD 0 = l[k] ∧ (l.take (k + 1)).dropLast = l.take k := by
  rw [List.take_succ_eq_append_getElem h]
  exact ⟨by rw [List.getLast?_concat]; rfl, List.dropLast_concat⟩
theorem untilF_step (T : TreeD) (names : List ByteArray) (l : List Int) (k : Nat) (h : k < l.length) : untilF T names (l.take (k + 1)).reverse = if namedF T l[k] names then (l.take k).reverse else untilF T names (l.take k).reverse := by
  rw [List.take_succ_eq_append_getElem h, List.reverse_append]
  rfl

set_option maxRecDepth 100000 in
theorem Until_si (h : SI w0 B tb sb ex T l w) (names : List ByteArray) (a : Option Addr) (c : Nat) (ha : AtF (Own w0 ex) w a (strsV names)) (hn : names.length ≤ 1048576) :
    Calls Tryz.prog 36 #[.pointer (some ⟨sb, 0, none⟩), .slice a names.length c] w fun e w' => e = .returned (.tuple #[]) ∧ SI w0 B tb sb ex T (untilF T names l.reverse).reverse w' ∧ Keeps (Own w0 ex) w w' := by
  have HS := Lib.hid h
  have HA := Lib.hid ha
  have hsh := h.short
  clear h ha
  go_enter Tryz.func36, Tryz.ntmps36
  go_wp2_with fail
  go_loopg [] l.length (fun k wr => Hid (k ≤ l.length ∧ SI w0 B tb sb ex T (l.take k) wr ∧ Keeps (Own w0 ex) w wr ∧ untilF T names l.reverse = untilF T names (l.take k).reverse))
  case atStart => exact Lib.hid ⟨Nat.le_refl _, by rw [List.take_of_length_le (Nat.le_refl _)]; exact HS.out, Keeps.refl _ _, by rw [List.take_of_length_le (Nat.le_refl _)]⟩
  case round =>
    have hk := hrel.out.1
    obtain ⟨sa, sc, c0, c1, _⟩ := hrel.out.2.1.cells
    rw [List.length_take, Nat.min_eq_left hk] at c1
    have HR := hrel
    clear hrel
    cases gk with
    | zero =>
      go_wp2_with fail
      go_end0
      refine ⟨rfl, ?_, HR.out.2.2.1⟩
      rw [HR.out.2.2.2]
      exact HR.out.2.1
    | succ k =>
      have hlt : k < l.length := by omega
      have HT := Lib.hid (take_last hlt)
      have HU := Lib.hid (untilF_step T names l k hlt)
      have HP := Lib.hid (Pop_si HR.out.2.1)
      rw [HT.out.1, HT.out.2] at HP
      obtain ⟨x, hx⟩ : ∃ x, x = l[k] := ⟨_, rfl⟩
      rw [← hx] at HP HU
      clear hx
      cases hnm : namedF T x names
      all_goals
        rw [hnm] at HU
        go_wp2_with (first | (go_at_call 31; go_must (refine HP.out.mono ?_; rintro e w1 ⟨rfl, h1, hk1⟩; have HN := Lib.hid (named_si h1 x names a c ((HA.out.kept HR.out.2.2.1).kept hk1).at hn); rw [hnm] at HN; have H1 := Lib.hid h1; have HK1 := Lib.hid hk1; clear h1 hk1)) | (go_at_call 69; go_must (refine HN.out.mono ?_; rintro e w2 ⟨rfl, hb2⟩; have HB2 := Lib.hid hb2; clear hb2)))
        have HE := Lib.hid (H1.out.world HB2.out)
        have HKE := Lib.hid ((HR.out.2.2.1.trans HK1.out).trans (Keeps.ofBelow HB2.out))
        first
          | (go_roundg k
             case measure => omega
             case rel => exact Lib.hid ⟨by omega, HE.out, HKE.out, by rw [HR.out.2.2.2, HU.out]; rfl⟩)
          | (refine bodyPost_ret (results_none rfl _ _ _) rfl ?_
             refine ⟨rfl, ?_, HKE.out⟩
             rw [HR.out.2.2.2, HU.out, if_pos trivial, List.reverse_reverse]
             exact HE.out)

theorem SI.lay (h : SI w0 B tb sb ex T l w) (o : Obj) : SI w0 B tb sb (fun k => ex k ∨ k = w.heap.size) T l (w.alloc o) :=
  h.foreign (F := fun _ => False) (Keeps.ofBelow ((Below.refl _ _).alloc (Nat.le_refl _) o)) (fun _ h => h.elim) fun k hk => by
    rcases hk with hk | hk
    · refine ⟨.inl hk, ?_⟩
      obtain ⟨g, gs, far, h1, h2, h3, h4, h5⟩ := h
      have := (h1.tree.far_lt k (h4 k hk)).1
      simp; omega
    · exact ⟨.inr (by omega), by simp; omega⟩
theorem SI.less {ex' : Nat → Prop} (h : SI w0 B tb sb ex T l w) (he : ∀ k, ex' k → ex k) : SI w0 B tb sb ex' T l w := by
  obtain ⟨g, gs, far, h1, h2, h3, h4, h5⟩ := h
  exact ⟨g, gs, far, h1, h2, fun k hk => ⟨(h3 k hk).1, (h3 k hk).2.1, fun hx => (h3 k hk).2.2 (he k hx)⟩, fun k hk => h4 k (he k hk), h5⟩
theorem until1_si (h : SI w0 B tb sb ex T l w) (x : ByteArray) :
    Calls Tryz.prog 36 #[.pointer (some ⟨sb, 0, none⟩), .slice (some ⟨w.heap.size, 0, none⟩) 1 1] (w.alloc (.cells #[.string x] 9)) fun e w' => e = .returned (.tuple #[]) ∧ SI w0 B tb sb ex T (untilF T [x] l.reverse).reverse w' ∧ Keeps (Own w0 ex) w w' := by
  have hA : At (w.alloc (.cells #[.string x] 9)) (some ⟨w.heap.size, 0, none⟩) (strsV [x]) := at_alloc rfl rfl
  refine (Until_si (h.lay (.cells #[.string x] 9)) [x] (some ⟨w.heap.size, 0, none⟩) 1 (AtF.of_new hA ?_) (by simp)).mono ?_
  · intro b o s he
    cases he
    exact fun hx => hx.2 (.inr rfl)
  · rintro e w' ⟨he, hs, hk⟩
    exact ⟨he, hs.less fun k hk => .inl hk, (((Keeps.refl (Own w0 ex) w).alloc _).trans (hk.mono fun k _ hk => ⟨hk.1, fun hx => hk.2 (.inl hx)⟩))⟩
end
end Go.Proofs.YtclflmjpdglgiaaGreat
