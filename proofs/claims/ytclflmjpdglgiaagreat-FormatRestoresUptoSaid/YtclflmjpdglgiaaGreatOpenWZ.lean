import Derived.Test.YtclflmjpdglgiaaGreatOpenLV
import Derived.Test.YtclflmjpdglgiaaGreatTreeAll
import Derived.Lib.BufferMore
/-
  A node of a tree with all below it, as plain data: what Read tells. (Layer 14.)
-/
namespace Go.Proofs.YtclflmjpdglgiaaGreat
open Go.RowKit Mem

/-- what is below n goes no deeper than so many steps -/
def Deep : Nat → TreeD → Int → Prop
  | 0, _, _ => False
  | k + 1, T, n => ∀ x ∈ kidsF T n, Deep k T x
def emptyNT : NT := .mk 0 0 ⟨#[]⟩ [] ⟨#[]⟩ []
def readN : Nat → TreeD → Int → NT
  | 0, _, _ => emptyNT
  | k + 1, T, n => match T.nodes[n.toNat]? with
    | none => emptyNT
    | some d => if d.elem then .mk 1 d.space d.name d.attrs ⟨#[]⟩ ((kidsF T n).map (readN k T)) else .mk 2 0 ⟨#[]⟩ [] d.text []
theorem readN_elem (k : Nat) (T : TreeD) (i : Nat) (h : i < T.nodes.length) (he : T.nodes[i].elem = true) :
    readN (k + 1) T i = .mk 1 T.nodes[i].space T.nodes[i].name T.nodes[i].attrs ⟨#[]⟩ (T.nodes[i].kids.map (readN k T)) := by
  simp [readN, h, he, kidsF]
theorem readN_text (k : Nat) (T : TreeD) (i : Nat) (h : i < T.nodes.length) (he : T.nodes[i].elem = false) : readN (k + 1) T i = .mk 2 0 ⟨#[]⟩ [] T.nodes[i].text [] := by
  simp [readN, h, he]
theorem deep_more : ∀ (k : Nat) (T : TreeD) (n : Int), Deep k T n → Deep (k + 1) T n
  | 0, _, _, h => h.elim
  | k + 1, T, _, h => fun x hx => deep_more k T x (h x hx)
theorem deep_le {k j : Nat} {T : TreeD} {n : Int} (h : Deep k T n) (hkj : k ≤ j) : Deep j T n := by
  obtain ⟨m, rfl⟩ := Nat.exists_eq_add_of_le hkj
  clear hkj
  induction m with
  | zero => exact h
  | succ m ih => exact deep_more _ _ _ ih
theorem bounded (r : Nat → Nat) : ∀ N : Nat, ∃ M, ∀ i, i < N → r i ≤ M
  | 0 => ⟨0, fun i h => by omega⟩
  | N + 1 => by
    obtain ⟨M, hM⟩ := bounded r N
    refine ⟨max M (r N), fun i hi => ?_⟩
    by_cases he : i = N
    · subst he; omega
    · have := hM i (by omega); omega
/-- some depth is enough for every node -/
theorem deep_all {T : TreeD} (hw : WF T) : ∃ k, ∀ i : Nat, 1 ≤ i → i < T.nodes.length → Deep k T i := by
  obtain ⟨r, hr⟩ := hw.rank
  obtain ⟨M, hM⟩ := bounded (fun i => r i) T.nodes.length
  have key : ∀ (k : Nat) (i : Nat), 1 ≤ i → i < T.nodes.length → M < r i + k → Deep k T i := by
    intro k
    induction k with
    | zero => intro i _ hi h; have := hM i hi; omega
    | succ k ih =>
      intro i h1 hi h x hx
      obtain ⟨hx1, hx2, hx3⟩ := hw.kid i hi x hx
      obtain ⟨j, rfl⟩ := Int.eq_ofNat_of_zero_le (by omega : 0 ≤ x)
      have hlt := hr j (by omega) (by rw [hx3]; omega)
      rw [hx3] at hlt
      exact ih j (by omega) (by omega) (by omega)
  exact ⟨M + 1, fun i h1 hi => key _ i h1 hi (by omega)⟩
end Go.Proofs.YtclflmjpdglgiaaGreat

/-
  Contract: (*open.Tree).Read: a node with all below it, in new memory.
-/
namespace Go.Proofs.YtclflmjpdglgiaaGreat
open Go.RowKit Mem

theorem keepN {w2 u : World} {B : Nat} {v1 v2 v3 : Value} (hk : Keeps Non w2 u) (hlt : B < w2.heap.size) (x1 : w2.cell? ⟨B, 1, none⟩ = some v1) (x2 : w2.cell? ⟨B, 2, none⟩ = some v2) (x3 : w2.cell? ⟨B, 3, none⟩ = some v3) :
    u.cell? ⟨B, 1, none⟩ = some v1 ∧ u.cell? ⟨B, 2, none⟩ = some v2 ∧ u.cell? ⟨B, 3, none⟩ = some v3 := keepW3 (hk.block B hlt (fun h => h)) ⟨x1, x2, x3⟩
/-- six cells of a block are written -/
def put6 (w : World) (O : Nat) (u0 u1 u2 u3 u4 u5 : Value) : World :=
  (((((w.setCell ⟨O, 0, none⟩ u0).setCell ⟨O, 1, none⟩ u1).setCell ⟨O, 2, none⟩ u2).setCell ⟨O, 3, none⟩ u3).setCell ⟨O, 4, none⟩ u4).setCell ⟨O, 5, none⟩ u5
theorem put6_keeps {F : Nat → Prop} {w2 w4 : World} {O : Nat} (u0 u1 u2 u3 u4 u5 : Value) (hk : Keeps F w2 w4) (hO : F O ∨ w2.heap.size ≤ O) : Keeps F w2 (put6 w4 O u0 u1 u2 u3 u4 u5) :=
  (((((hk.set (p := ⟨O, 0, none⟩) hO u0).set (p := ⟨O, 1, none⟩) hO u1).set (p := ⟨O, 2, none⟩) hO u2).set (p := ⟨O, 3, none⟩) hO u3).set (p := ⟨O, 4, none⟩) hO u4).set (p := ⟨O, 5, none⟩) hO u5
theorem put6_heap {w4 : World} {O : Nat} {a0 a1 a2 a3 a4 a5 : Value} {t : TypeId} (u0 u1 u2 u3 u4 u5 : Value) (h : w4.heap[O]? = some (.cells #[a0, a1, a2, a3, a4, a5] t (0, 0))) :
    (put6 w4 O u0 u1 u2 u3 u4 u5).heap[O]? = some (.cells #[u0, u1, u2, u3, u4, u5] t (0, 0)) :=
  Lib.heap_setCell_same (i := 5) (Lib.heap_setCell_same (i := 4) (Lib.heap_setCell_same (i := 3) (Lib.heap_setCell_same (i := 2) (Lib.heap_setCell_same (i := 1) (Lib.heap_setCell_same (i := 0) h u0) u1) u2) u3) u4) u5
theorem put6_other {w : World} {O k : Nat} (u0 u1 u2 u3 u4 u5 : Value) (h : k ≠ O) : (put6 w O u0 u1 u2 u3 u4 u5).heap[k]? = w.heap[k]? := by
  unfold put6
  rw [heap_setCell_other _ _ _ _ h, heap_setCell_other _ _ _ _ h, heap_setCell_other _ _ _ _ h, heap_setCell_other _ _ _ _ h, heap_setCell_other _ _ _ _ h, heap_setCell_other _ _ _ _ h]
theorem own_type {w : World} {base : Nat} {e t : TypeId} {size O : Nat} {v : Value} {n : Nat} {xs : List Value} {cs : Array Value} {fr : Nat × Nat} (h : w.ownsRow base e size v n xs) (hO : w.heap[O]? = some (.cells cs t fr)) (hne : t ≠ e) : ∀ k, v.ownBlock = some k → k ≠ O := by
  intro k hk e'
  subst e'
  rcases h.2 with ⟨rfl, _⟩ | ⟨g, cap, cur, rfl, _, hg, _⟩
  · cases hk
  · simp only [Value.ownBlock, Option.some.injEq] at hk
    subst hk
    rw [hg] at hO
    cases hO
    exact hne rfl
theorem own_put6 {w : World} {base : Nat} {e : TypeId} {size O : Nat} {v : Value} {n : Nat} {xs : List Value} (u0 u1 u2 u3 u4 u5 : Value) (h : w.ownsRow base e size v n xs) (hne : ∀ k, v.ownBlock = some k → k ≠ O) : (put6 w O u0 u1 u2 u3 u4 u5).ownsRow base e size v n xs :=
  own_kept h fun k hk => put6_other _ _ _ _ _ _ (hne k hk)
/-- what the attributes lie in, behind the node's own block -/
theorem attr_at {w5 : World} {base O : Nat} {v : Value} {n : Nat} {xs : List Value} (h : w5.ownsRow base 98 2 v n xs) (hne : ∀ k, v.ownBlock = some k → k ≠ O) :
    ∃ a c, v = .slice a n c ∧ n ≤ c ∧ c ≤ maxLen ∧ RowForm a c ∧ AtF (fun b => b = O ∨ b < base) w5 a xs := by
  obtain ⟨a, c, rfl, h1, h2, h3, h4⟩ := own_at h
  refine ⟨a, c, rfl, h1, h2, own_form h, AtF.of_new h4 fun b o s ha hb => ?_⟩
  subst ha
  rcases h.2 with ⟨hv, _⟩ | ⟨g, cap, cur, hv, hg, _⟩
  · cases hv
  · cases hv
    rcases hb with hb | hb
    · exact hne b rfl hb
    · omega
theorem nodeC_form {F : Nat → Prop} {w : World} {cs : List Value} {n : NT} (h : NodeC F w cs n) : ∃ f0 f1 f2 f3 f4 f5 f6 f7 f8 f9, cs = nodeV f0 f1 f2 f3 f4 f5 f6 f7 f8 f9 := by
  cases h
  exact ⟨_, _, _, _, _, _, _, _, _, _, rfl⟩
section
variable {w5 wr : World} {O : Nat} {u0 u1 u2 u3 u4 : Value} {d : Nat} {T : TreeD} {kl : List Int} {k : Nat} {av : Option Addr} {cv : Nat} {css : List (List Value)}
end

theorem keepS6 {w2 w4 : World} {B O : Nat} {u0 u1 u2 u3 u4 u5 v1 v2 v3 : Value} (hk : Keeps Non w2 w4) (hlt : B < w2.heap.size) (hO : w2.heap.size ≤ O) (x1 : w2.cell? ⟨B, 1, none⟩ = some v1) (x2 : w2.cell? ⟨B, 2, none⟩ = some v2) (x3 : w2.cell? ⟨B, 3, none⟩ = some v3) :
    ((((((w4.setCell ⟨O, 0, none⟩ u0).setCell ⟨O, 1, none⟩ u1).setCell ⟨O, 2, none⟩ u2).setCell ⟨O, 3, none⟩ u3).setCell ⟨O, 4, none⟩ u4).setCell ⟨O, 5, none⟩ u5).cell? ⟨B, 1, none⟩ = some v1 ∧
    ((((((w4.setCell ⟨O, 0, none⟩ u0).setCell ⟨O, 1, none⟩ u1).setCell ⟨O, 2, none⟩ u2).setCell ⟨O, 3, none⟩ u3).setCell ⟨O, 4, none⟩ u4).setCell ⟨O, 5, none⟩ u5).cell? ⟨B, 2, none⟩ = some v2 ∧
    ((((((w4.setCell ⟨O, 0, none⟩ u0).setCell ⟨O, 1, none⟩ u1).setCell ⟨O, 2, none⟩ u2).setCell ⟨O, 3, none⟩ u3).setCell ⟨O, 4, none⟩ u4).setCell ⟨O, 5, none⟩ u5).cell? ⟨B, 3, none⟩ = some v3 :=
  keepN (put6_keeps u0 u1 u2 u3 u4 u5 hk (.inr hO)) hlt x1 x2 x3
theorem cells6 {w : World} {B : Nat} {v0 v1 v2 v3 v4 v5 : Value} {t : TypeId} (h : w.heap[B]? = some (.cells #[v0, v1, v2, v3, v4, v5] t (0, 0))) :
    (w.cell? ⟨B, 0, none⟩ = some v0 ∧ w.cell? ⟨B, 1, none⟩ = some v1 ∧ w.cell? ⟨B, 2, none⟩ = some v2 ∧ w.cell? ⟨B, 3, none⟩ = some v3 ∧ w.cell? ⟨B, 4, none⟩ = some v4 ∧ w.cell? ⟨B, 5, none⟩ = some v5) ∧
      w.frozen? ⟨B, 0, none⟩ = false ∧ w.frozen? ⟨B, 1, none⟩ = false ∧ w.frozen? ⟨B, 2, none⟩ = false ∧ w.frozen? ⟨B, 3, none⟩ = false ∧ w.frozen? ⟨B, 4, none⟩ = false ∧ w.frozen? ⟨B, 5, none⟩ = false := by
  simp only [cell_of_row w B _ _ _ _ h, frozen_of_row w B _ _ _ h]
  exact ⟨⟨rfl, rfl, rfl, rfl, rfl, rfl⟩, trivial, trivial, trivial, trivial, trivial, trivial⟩

end Go.Proofs.YtclflmjpdglgiaaGreat

/-
  Contract: (*open.Tree).Read, the whole, of any number.
-/
namespace Go.Proofs.YtclflmjpdglgiaaGreat
open Go.RowKit Mem

/-- what Read tells, and the number beside it -/
def readQ (d : Nat) (T : TreeD) (n : Int) : NT := if isF T n then readN d T n else emptyNT
end Go.Proofs.YtclflmjpdglgiaaGreat

/-
  How many nodes there are below one: plain Lean, no Go. (Layer 14.)
-/
namespace Go.Proofs.YtclflmjpdglgiaaGreat
open Mem

mutual
def ntCount : NT → Nat
  | .mk _ _ _ _ _ kids => 1 + ntCounts kids
def ntCounts : List NT → Nat
  | [] => 0
  | x :: r => ntCount x + ntCounts r
end
theorem counts_mem : ∀ (l : List NT) (x : NT), x ∈ l → ntCount x ≤ ntCounts l
  | [], _, h => by cases h
  | y :: r, x, h => by
    rw [ntCounts]
    rcases List.mem_cons.1 h with rfl | h
    · omega
    · have := counts_mem r x h
      omega
theorem counts_append : ∀ (l r : List NT), ntCounts (l ++ r) = ntCounts l + ntCounts r
  | [], r => by simp [ntCounts]
  | x :: l, r => by
    rw [List.cons_append, ntCounts, ntCounts, counts_append l r]
    omega
theorem counts_map {α : Type} (f : α → NT) : ∀ (l : List α), ntCounts (l.map f) = (l.map fun x => ntCount (f x)).sum
  | [] => rfl
  | x :: l => by
    rw [List.map_cons, ntCounts, counts_map f l, List.map_cons, List.sum_cons]

/-- above is no deeper -/
theorem reach_rank {T : TreeD} {r : Int → Nat} (hw : WF T) (hr : ∀ i : Nat, i < T.nodes.length → 1 ≤ parentF T i → r (parentF T i) < r i) {x m : Int} (hx : 1 ≤ x) (h : Reach T x m) : m < T.nodes.length → r x ≤ r m := by
  induction h with
  | here => exact fun _ => Nat.le_refl _
  | @up m h0 hh ih =>
    intro hm
    obtain ⟨i, rfl⟩ := Int.eq_ofNat_of_zero_le (by omega : 0 ≤ m)
    have hp := hw.par i (by omega)
    have h1 := ih hp.2
    have hp1 : 1 ≤ parentF T i := by
      rcases Int.lt_or_le (parentF T i) 1 with h | h
      · have := (reach_low (T := T) (top := x) (n := parentF T i) (by omega)).1 hh
        omega
      · exact h
    have := hr i (by omega) hp1
    omega
/-- of two that are above one, one is above the other -/
theorem reach_two {T : TreeD} {x y m : Int} (hx : Reach T x m) (hy : Reach T y m) : Reach T x y ∨ Reach T y x := by
  induction hx with
  | here => exact .inr hy
  | @up m h0 hh ih =>
    cases hy with
    | here => exact .inl (.up h0 hh)
    | up _ hy' => exact ih hy'

section
variable {T : TreeD} (hw : WF T)
include hw
theorem kid_not_above {n : Nat} (hn : n < T.nodes.length) (h1 : 1 ≤ n) {x : Int} (hx : x ∈ kidsF T n) : ¬ Reach T x n := by
  intro h
  obtain ⟨p1, p2, p3⟩ := hw.kid n hn x hx
  obtain ⟨r, hr⟩ := hw.rank
  obtain ⟨i, rfl⟩ := Int.eq_ofNat_of_zero_le (by omega : 0 ≤ x)
  have h2 := reach_rank hw hr p1 h (by omega)
  have h3 := hr i (by omega) (by rw [p3]; omega)
  rw [p3] at h3
  omega
theorem reach_kid {n : Nat} {m : Int} (hm : m < T.nodes.length) (hne : m ≠ n) (h : Reach T n m) : ∃ x, x ∈ kidsF T n ∧ Reach T x m := by
  have key : ∀ m : Int, Reach T n m → m < T.nodes.length → m ≠ n → ∃ x, x ∈ kidsF T n ∧ Reach T x m := by
    intro m hm
    induction hm with
    | here => intro _ h; exact absurd rfl h
    | @up m h0 hh ih =>
      intro hlt _
      obtain ⟨i, rfl⟩ := Int.eq_ofNat_of_zero_le (by omega : 0 ≤ m)
      have hp := hw.par i (by omega)
      by_cases he : parentF T i = n
      · have := hw.mem i (by omega) (by omega)
        rw [he] at this
        exact ⟨_, this, .here⟩
      · obtain ⟨x, hx, hr⟩ := ih hp.2 he
        exact ⟨x, hx, .up h0 hr⟩
  exact key m h hm hne
theorem kid_reach {n : Nat} (hn : n < T.nodes.length) {x m : Int} (hx : x ∈ kidsF T n) (h : Reach T x m) : Reach T n m := by
  obtain ⟨p1, p2, p3⟩ := hw.kid n hn x hx
  induction h with
  | here => exact .up (by omega) (by rw [p3]; exact .here)
  | up h0 _ ih => exact .up h0 ih
theorem kid_one {n : Nat} (hn : n < T.nodes.length) (h1 : 1 ≤ n) {x y m : Int} (hx : x ∈ kidsF T n) (hy : y ∈ kidsF T n) (hxm : Reach T x m) (hym : Reach T y m) : x = y := by
  have key : ∀ {x y : Int}, x ∈ kidsF T n → y ∈ kidsF T n → Reach T x y → x = y := by
    intro x y hx hy h
    cases h with
    | here => rfl
    | up h0 h =>
      rw [(hw.kid n hn y hy).2.2] at h
      exact absurd h (kid_not_above hw hn h1 hx)
  rcases reach_two hxm hym with h | h
  · exact key hx hy h
  · exact (key hy hx h).symm
end

theorem countP_one {α : Type} (P : α → Bool) : ∀ (l : List α), l.Nodup → (∀ x ∈ l, ∀ y ∈ l, P x = true → P y = true → x = y) → (∃ x ∈ l, P x = true) → l.countP P = 1
  | [], _, _, ⟨_, h, _⟩ => by cases h
  | a :: r, hd, hu, hex => by
    rw [List.nodup_cons] at hd
    rw [List.countP_cons]
    by_cases ha : P a = true
    · rw [if_pos ha]
      have : r.countP P = 0 := by
        rw [List.countP_eq_zero]
        intro x hx hp
        have := hu a List.mem_cons_self x (List.mem_cons_of_mem _ hx) ha hp
        subst this
        exact hd.1 hx
      omega
    · rw [if_neg ha]
      obtain ⟨x, hx, hp⟩ := hex
      rcases List.mem_cons.1 hx with rfl | hx
      · exact absurd hp ha
      · have := countP_one P r hd.2 (fun x hx y hy => hu x (List.mem_cons_of_mem _ hx) y (List.mem_cons_of_mem _ hy)) ⟨x, hx, hp⟩
        omega
theorem sum_add {α : Type} (f g : α → Nat) : ∀ l : List α, (l.map fun x => f x + g x).sum = (l.map f).sum + (l.map g).sum
  | [] => rfl
  | a :: r => by
    rw [List.map_cons, List.map_cons, List.map_cons, List.sum_cons, List.sum_cons, List.sum_cons, sum_add f g r]
    omega
theorem sum_ind {α : Type} (P : α → Bool) : ∀ l : List α, (l.map fun x => if P x then 1 else 0).sum = l.countP P
  | [] => rfl
  | a :: r => by
    rw [List.map_cons, List.sum_cons, sum_ind P r, List.countP_cons]
    omega
theorem count_swap {α β : Type} (P : β → α → Bool) (E : α → Bool) (Q : α → Bool) (ks : List β) : ∀ (M : List α), (∀ a ∈ M, (if Q a then 1 else 0) = (if E a then 1 else 0) + ks.countP (fun x => P x a)) → M.countP Q = M.countP E + (ks.map fun x => M.countP (P x)).sum
  | [], _ => by
    have : ∀ l : List β, (l.map fun _ => 0).sum = 0 := by intro l; induction l <;> simp_all
    simp [this]
  | a :: M, h => by
    have ih := count_swap P E Q ks M (fun b hb => h b (List.mem_cons_of_mem _ hb))
    have ha := h a List.mem_cons_self
    have hs : (ks.map fun x => (a :: M).countP (P x)).sum = (ks.map fun x => M.countP (P x)).sum + ks.countP (fun x => P x a) := by
      have : (fun x => (a :: M).countP (P x)) = fun x => M.countP (P x) + (if P x a then 1 else 0) := by
        funext x; rw [List.countP_cons]
      rw [this, sum_add, sum_ind]
    rw [List.countP_cons, List.countP_cons, hs, ih, ha]
    omega

/-- how many nodes are n, or below it -/
noncomputable def cntF (T : TreeD) (n : Int) : Nat := (List.range T.nodes.length).countP fun m : Nat => decide (1 ≤ m) && belowF T m n
theorem cntF_step {T : TreeD} (hw : WF T) {n : Nat} (hn : n < T.nodes.length) (h1 : 1 ≤ n) : cntF T n = 1 + ((kidsF T n).map (cntF T)).sum := by
  have h := count_swap (fun (x : Int) (m : Nat) => decide (1 ≤ m) && belowF T m x) (fun m => decide (m = n)) (fun m => decide (1 ≤ m) && belowF T m n) (kidsF T n) (List.range T.nodes.length) (by
    intro m hm
    have hm' := List.mem_range.1 hm
    by_cases hm1 : 1 ≤ m
    · have e1 : decide (1 ≤ m) = true := by simpa using hm1
      simp only [e1, Bool.true_and]
      by_cases he : m = n
      · subst he
        have : (kidsF T m).countP (fun x => belowF T m x) = 0 := by
          rw [List.countP_eq_zero]
          intro x hx hb
          exact kid_not_above hw hn hm1 hx (by simpa [belowF] using hb)
        rw [this, belowF_true .here]
        simp
      · rw [if_neg (by simpa using he : ¬ decide (m = n) = true)]
        by_cases hb : Reach T n m
        · rw [belowF_true hb, if_pos rfl]
          obtain ⟨x, hx, hxm⟩ := reach_kid hw (by omega) (by omega) hb
          rw [countP_one _ _ (hw.nodup n hn) (fun x hx y hy p q => kid_one hw hn h1 hx hy (by simpa [belowF] using p) (by simpa [belowF] using q)) ⟨x, hx, belowF_true hxm⟩]
        · have hb' : belowF T m n = false := by simpa [belowF] using hb
          rw [hb']
          have : (kidsF T n).countP (fun x => belowF T m x) = 0 := by
            rw [List.countP_eq_zero]
            intro x hx hh
            exact hb (kid_reach hw hn hx (by simpa [belowF] using hh))
          rw [this]
          simp
    · have e1 : decide (1 ≤ m) = false := by simpa using hm1
      have : (kidsF T n).countP (fun x => decide (1 ≤ m) && belowF T m x) = 0 := by
        rw [List.countP_eq_zero]
        intro x _ hh
        rw [e1] at hh
        cases hh
      rw [this, e1]
      have : m ≠ n := by omega
      simp [this])
  have h2 : (List.range T.nodes.length).countP (fun m => decide (m = n)) = 1 :=
    countP_one _ _ List.nodup_range (fun x _ y _ p q => (of_decide_eq_true p).trans (of_decide_eq_true q).symm) ⟨n, List.mem_range.2 hn, by simp⟩
  rw [h2] at h
  exact h

theorem count_read : ∀ (d : Nat) (T : TreeD), WF T → ∀ i : Nat, 1 ≤ i → i < T.nodes.length → Deep d T i → ntCount (readN d T i) = cntF T i
  | 0, _, _, _, _, _, h => h.elim
  | d + 1, T, hw, i, h1, hi, h => by
    rw [cntF_step hw hi h1]
    have hk := kidsF_of T i hi
    cases he : T.nodes[i].elem
    · rw [readN_text d T i hi he]
      have : kidsF T i = [] := by
        cases hc : kidsF T i with
        | nil => rfl
        | cons x r =>
          have hh := hw.holds i hi (by rw [hc]; simp)
          simp only [holdsF, Bool.or_eq_true, beq_iff_eq] at hh
          rcases hh with hh | hh
          · omega
          · rw [elemF_of T i h1 hi, he] at hh
            cases hh
      rw [this]
      rfl
    · rw [readN_elem d T i hi he, ntCount, ← hk, counts_map]
      congr 1
      congr 1
      refine List.map_congr_left fun x hx => ?_
      obtain ⟨p1, p2, _⟩ := hw.kid i hi x hx
      obtain ⟨j, rfl⟩ := Int.eq_ofNat_of_zero_le (by omega : 0 ≤ x)
      exact count_read d T hw j (by omega) (by omega) (h _ hx)
theorem cntF_le (T : TreeD) (n : Int) : cntF T n ≤ T.nodes.length := by
  have := List.countP_le_length (p := fun m : Nat => decide (1 ≤ m) && belowF T m n) (l := List.range T.nodes.length)
  simpa [cntF] using this
end Go.Proofs.YtclflmjpdglgiaaGreat

/-
  Contract: colanderlaw14.count: how many nodes there are in a node that is given by value.
-/
namespace Go.Proofs.YtclflmjpdglgiaaGreat
open Go.RowKit Mem

theorem counts_take (l : List NT) (j : Nat) (h : j < l.length) : ntCounts (l.take (j + 1)) = ntCounts (l.take j) + ntCount l[j] := by
  have : l.take (j + 1) = l.take j ++ [l[j]] := by rw [List.take_add_one]; simp [h]
  rw [this, counts_append]
  simp [ntCounts]
theorem counts_take_le : ∀ (l : List NT) (j : Nat), ntCounts (l.take j) ≤ ntCounts l
  | [], j => by simp
  | x :: r, 0 => by simp [ntCounts]
  | x :: r, j + 1 => by
    rw [List.take_succ_cons, ntCounts, ntCounts]
    have := counts_take_le r j
    omega

/-- a kid's six cells -/
theorem kid_cells {F : Nat → Prop} {w : World} {ka : Option Addr} {css : List (List Value)} {f0 f1 : Int} {f2 : ByteArray} {f3 : Option Addr} {f4 f5 : Nat} {f6 : ByteArray} {f7 : Option Addr} {f8 f9 : Nat} (h6 : ∀ c ∈ css, c.length = 6) (h : AtF F w ka css.flatten) {j : Nat} (hj : j < css.length) (hc : css[j] = nodeV f0 f1 f2 f3 f4 f5 f6 f7 f8 f9) :
    ∃ b o, ka = some ⟨b, o, none⟩ ∧ w.cell? ⟨b, o + j * 6, none⟩ = some (.int .i64 f0) ∧ w.cell? ⟨b, o + j * 6 + 1, none⟩ = some (.int .i64 f1) ∧ w.cell? ⟨b, o + j * 6 + 2, none⟩ = some (.string f2) ∧ w.cell? ⟨b, o + j * 6 + 3, none⟩ = some (.slice f3 f4 f5) ∧ w.cell? ⟨b, o + j * 6 + 4, none⟩ = some (.string f6) ∧ w.cell? ⟨b, o + j * 6 + 5, none⟩ = some (.slice f7 f8 f9) := by
  have key : ∀ f u, f < 6 → (nodeV f0 f1 f2 f3 f4 f5 f6 f7 f8 f9)[f]? = some u → ∃ b o, ka = some ⟨b, o, none⟩ ∧ w.cell? ⟨b, o + j * 6 + f, none⟩ = some u := by
    intro f u hf hu
    obtain ⟨b, o, e, _, hcell⟩ := h (j * 6 + f) u (by rw [flat6_get css j f hj h6 hf, hc]; exact hu)
    exact ⟨b, o, e, by rw [show o + j * 6 + f = o + (j * 6 + f) from by omega]; exact hcell⟩
  obtain ⟨b, o, rfl, c0⟩ := key 0 _ (by omega) rfl
  obtain ⟨_, _, e, c1⟩ := key 1 _ (by omega) rfl
  cases e
  obtain ⟨_, _, e, c2⟩ := key 2 _ (by omega) rfl
  cases e
  obtain ⟨_, _, e, c3⟩ := key 3 _ (by omega) rfl
  cases e
  obtain ⟨_, _, e, c4⟩ := key 4 _ (by omega) rfl
  cases e
  obtain ⟨_, _, e, c5⟩ := key 5 _ (by omega) rfl
  cases e
  exact ⟨b, o, rfl, c0, c1, c2, c3, c4, c5⟩

end Go.Proofs.YtclflmjpdglgiaaGreat

/-
  The steps of a law on a tree, as plain data and as cells of the list that came in. (Layer 14.)
-/
namespace Go.Proofs.YtclflmjpdglgiaaGreat
open Go.RowKit Mem

structure OpD where
  kind : Int
  a : Int
  b : Int
  c : Int
  s : ByteArray
  attrs : List Pair

def opV (o : OpD) (aa : Option Addr) (ac : Nat) : List Value := [.int .i64 o.kind, .int .i64 o.a, .int .i64 o.b, .int .i64 o.c, .string o.s, .slice aa o.attrs.length ac]
/-- a list of steps in memory -/
structure OpsAt (w : World) (a : Option Addr) (l : List OpD) : Prop where
  ops : ∀ k (h : k < l.length), ∃ b o aa ac, a = some ⟨b, o, none⟩ ∧ (aa = none → ac = 0) ∧ AtF Non w aa (pairsV l[k].attrs) ∧ ∀ f v, (opV l[k] aa ac)[f]? = some v → w.cell? ⟨b, o + k * 6 + f, none⟩ = some v
theorem OpsAt.below {w w' : World} {a : Option Addr} {l : List OpD} (h : OpsAt w a l) (hb : Below w.heap.size w w') : OpsAt w' a l where
  ops := fun k hk => by
    obtain ⟨b, o, aa, ac, h1, h2, h3, h4⟩ := h.ops k hk
    exact ⟨b, o, aa, ac, h1, h2, h3.kept (Keeps.ofBelow hb), fun f v hf => cell_later hb (h4 f v hf)⟩

/-- no more nodes than may be -/
def Lm (m : Int) (T : TreeD) : Prop := (T.nodes.length : Int) ≤ m + 1 ∧ T.most = m
theorem mkF_lm {m : Int} {T : TreeD} (d : ND) (h : Lm m T) : Lm m (mkF T d).1 := by
  unfold mkF
  split
  · rename_i hh
    obtain ⟨h1, h2⟩ := h
    refine ⟨?_, h2⟩
    simp only [addF, List.length_append, List.length_singleton]
    omega
  · exact h
theorem likeF_lm {m : Int} {T : TreeD} (n : Int) (h : Lm m T) : Lm m (likeF T n).1 := by
  unfold likeF
  split
  · exact mkF_lm _ h
  · exact h
theorem putE_lm {m : Int} {T : TreeD} (a b n : Int) (h : Lm m T) : Lm m (putE T a b n).1 := by
  unfold putE
  split
  · exact ⟨by rw [putF_len]; exact h.1, by rw [putF_most]; exact h.2⟩
  · exact h
theorem takeE_lm {m : Int} {T : TreeD} (n : Int) (h : Lm m T) : Lm m (takeE T n).1 := by
  unfold takeE
  split
  · exact ⟨by rw [takeF_len]; exact h.1, by rw [takeF_most]; exact h.2⟩
  · exact h
theorem moveE_lm {m : Int} {T : TreeD} (a b : Int) (h : Lm m T) : Lm m (moveE T a b).1 := by
  unfold moveE
  split
  · have : ∀ (l : List Int) (T : TreeD), Lm m T → Lm m (moveF T b l) := by
      intro l
      induction l with
      | nil => exact fun _ h => h
      | cons x r ih => exact fun T h => ih _ (putE_lm _ _ _ h)
    exact this _ _ h
  · exact h
theorem textE_lm {m : Int} {T : TreeD} (a b : Int) (s : ByteArray) (h : Lm m T) : Lm m (textE T a b s).1 := by
  unfold textE
  split
  · split
    · exact h
    · unfold textAt
      split
      · exact ⟨by rw [modN_len]; exact h.1, h.2⟩
      · split
        · rename_i hh
          obtain ⟨h1, h2⟩ := h
          refine ⟨?_, h2⟩
          rw [insertF_len]
          simp only [addF, List.length_append, List.length_singleton]
          omega
        · exact h
  · exact h
end Go.Proofs.YtclflmjpdglgiaaGreat

/-
  What OpenWhole counts: for each node, from how many nodes a way up leads through it: plain Lean, no Go. (Layer 14.)
-/
namespace Go.Proofs.YtclflmjpdglgiaaGreat
open Go Mem

theorem made_ints (n : Nat) : (madeCells #[.int .i64 0] (n * 1)).toList = intsV (List.replicate n 0) := by
  apply List.ext_getElem?
  intro j
  have hl : (intsV (List.replicate n 0)).length = n := by rw [intsV_length]; simp
  by_cases hj : j < n
  · have h1 : (intsV (List.replicate n 0))[j]? = some (.int .i64 0) := by
      rw [intsV_get _ j (by simpa using hj)]; simp
    rw [h1]
    simp [madeCells, hj, Nat.mod_one]
  · rw [List.getElem?_eq_none (by simp [madeCells]; omega), List.getElem?_eq_none (by rw [hl]; omega)]

noncomputable def visB (T : TreeD) (n u : Int) (m : Nat) : Bool := decide (1 ≤ m) && belowF T n m && !belowF T u m
/-- m's count, ways from the nodes below n -/
noncomputable def upto (T : TreeD) (n m : Nat) : Nat := (List.range n).countP fun x : Nat => decide (1 ≤ x) && belowF T x m && decide (1 ≤ m)
noncomputable def szs (T : TreeD) (n : Nat) (u : Int) : List Int := (List.range T.nodes.length).map fun m => ((upto T n m + (if visB T n u m then 1 else 0) : Nat) : Int)
theorem szs_len (T : TreeD) (n : Nat) (u : Int) : (szs T n u).length = T.nodes.length := by simp [szs]
theorem szs_get (T : TreeD) (n : Nat) (u : Int) (m : Nat) (h : m < (szs T n u).length) : (szs T n u)[m] = ((upto T n m + (if visB T n u m then 1 else 0) : Nat) : Int) := by simp [szs]
theorem upto_le (T : TreeD) (n m : Nat) : upto T n m ≤ n := by
  have := List.countP_le_length (p := fun x : Nat => decide (1 ≤ x) && belowF T x m && decide (1 ≤ m)) (l := List.range n)
  simpa [upto] using this
theorem szs_zero (T : TreeD) : szs T 1 1 = List.replicate T.nodes.length 0 := by
  apply List.ext_getElem (by simp [szs])
  intro m h1 h2
  rw [szs_get]
  have e1 : upto T 1 m = 0 := by
    rw [upto, List.countP_eq_zero]
    intro x hx
    have : x = 0 := by simpa using hx
    subst this
    simp
  have e2 : visB T ((1 : Nat) : Int) 1 m = false := by
    rw [visB]
    cases belowF T ((1 : Nat) : Int) m <;> simp_all
  rw [e1, e2]
  simp
theorem szs_next (T : TreeD) (n : Nat) (h1 : 1 ≤ n) (u : Int) (hu : u ≤ 0) : szs T n u = szs T (n + 1) ((n + 1 : Nat) : Int) := by
  unfold szs
  refine List.map_congr_left fun m _ => ?_
  congr 1
  have e1 : visB T ((n + 1 : Nat) : Int) ((n + 1 : Nat) : Int) m = false := by
    rw [visB]
    cases belowF T ((n + 1 : Nat) : Int) m <;> simp
  have e2 : upto T (n + 1) m = upto T n m + (if decide (1 ≤ n) && belowF T n m && decide (1 ≤ m) then 1 else 0) := by
    rw [upto, upto, List.range_succ, List.countP_append]
    simp [List.countP_cons]
  have e3 : visB T n u m = (decide (1 ≤ n) && belowF T n m && decide (1 ≤ m)) := by
    rw [visB, belowF_low hu]
    by_cases hm : 1 ≤ m
    · have : (u == (m : Int)) = false := by rw [beq_eq_false_iff_ne]; omega
      rw [this]
      simp [hm, h1]
    · simp [hm]
  rw [e1, e2, e3]
  simp
theorem szs_full (T : TreeD) (u : Int) (hu : u = (T.nodes.length : Int)) (m : Nat) (hm1 : 1 ≤ m) (h : m < (szs T T.nodes.length u).length) : (szs T T.nodes.length u)[m] = (cntF T m : Int) := by
  rw [szs_get]
  have e1 : visB T T.nodes.length u m = false := by
    rw [visB, hu]
    cases belowF T (T.nodes.length : Int) m <;> simp
  rw [e1, upto, cntF]
  simp only [Bool.false_eq_true, if_false, Nat.add_zero]
  congr 1
  refine List.countP_congr fun x _ => ?_
  simp [hm1]

/-- one step up -/
theorem visB_step {T : TreeD} (hw : WF T) {n u : Nat} (hu1 : 1 ≤ u) (hu : u < T.nodes.length) (hr : Reach T u n) (m : Nat) :
    (if visB T n (parentF T u) m then 1 else 0) = (if decide (m = u) then 1 else 0) + (if visB T n u m then 1 else 0) := by
  by_cases hm : m = u
  · subst hm
    have e1 : belowF T n m = true := belowF_true hr
    have e2 : belowF T m m = true := belowF_true .here
    have e3 : belowF T (parentF T m) m = false := by
      cases hb : belowF T (parentF T m) m
      · rfl
      · exfalso
        have hb' : Reach T m (parentF T m) := by simpa [belowF] using hb
        obtain ⟨r, hrk⟩ := hw.rank
        have hp := hw.par m hu
        have h1 := reach_rank hw hrk (by omega) hb' hp.2
        have hp1 : 1 ≤ parentF T m := by
          rcases Int.lt_or_le (parentF T m) 1 with h | h
          · have := (reach_low (T := T) (top := m) (n := parentF T m) (by omega)).1 hb'
            omega
          · exact h
        have := hrk m hu hp1
        omega
    simp [visB, e1, e2, e3, hu1]
  · have e : belowF T (parentF T u) m = belowF T u m := (belowF_congr (reach_up (by omega) (by omega))).symm
    have : visB T n (parentF T u) m = visB T n u m := by rw [visB, visB, e]
    rw [this]
    simp [hm]
theorem szs_step {T : TreeD} (hw : WF T) {n u : Nat} (hu1 : 1 ≤ u) (hu : u < T.nodes.length) (hr : Reach T u n) (h : u < (szs T n u).length) :
    szs T n (parentF T u) = (szs T n u).set u ((szs T n u)[u] + 1) := by
  apply List.ext_getElem (by simp [szs])
  intro m h1 h2
  rw [szs_get, List.getElem_set]
  have hs := visB_step hw hu1 hu hr m
  by_cases hmu : m = u
  · subst hmu
    have e1 : (if decide (m = m) = true then (1 : Nat) else 0) = 1 := if_pos (by simp)
    rw [if_pos rfl, szs_get, hs, e1]
    generalize (if visB T n m m = true then 1 else 0) = z
    omega
  · have e1 : (if decide (m = u) = true then (1 : Nat) else 0) = 0 := if_neg (by simpa using hmu)
    have e2 : ¬ (u = m) := fun e => hmu e.symm
    have h3 : m < (szs T n u).length := by rw [szs_len]; rw [szs_len] at h1; exact h1
    rw [if_neg e2, hs, e1, Nat.zero_add, szs_get T n u m h3]
/-- how many have been passed -/
noncomputable def passed (T : TreeD) (n u : Int) : Nat := (List.range T.nodes.length).countP (visB T n u)
theorem passed_zero (T : TreeD) (n : Int) : passed T n n = 0 := by
  rw [passed, List.countP_eq_zero]
  intro m _
  rw [visB]
  cases belowF T n m <;> simp
theorem passed_step {T : TreeD} (hw : WF T) {n u : Nat} (hu1 : 1 ≤ u) (hu : u < T.nodes.length) (hr : Reach T u n) : passed T n (parentF T u) = passed T n u + 1 := by
  have h := count_swap (fun (_ : Unit) (m : Nat) => decide (m = u)) (visB T n u) (visB T n (parentF T u)) [()] (List.range T.nodes.length) (by
    intro m _
    have := visB_step hw hu1 hu hr m
    simp only [List.countP_cons, List.countP_nil]
    omega)
  have h2 : (List.range T.nodes.length).countP (fun m => decide (m = u)) = 1 :=
    countP_one _ _ List.nodup_range (fun x _ y _ p q => (of_decide_eq_true p).trans (of_decide_eq_true q).symm) ⟨u, List.mem_range.2 hu, by simp⟩
  simp only [List.map_cons, List.map_nil, List.sum_cons, List.sum_nil, h2] at h
  rw [passed, passed]
  omega
theorem passed_le (T : TreeD) (n u : Int) (hp : 0 < T.nodes.length) : passed T n u ≤ T.nodes.length - 1 := by
  obtain ⟨N, hN⟩ : ∃ N, T.nodes.length = N + 1 := ⟨T.nodes.length - 1, by omega⟩
  rw [passed, hN, List.range_succ_eq_map, List.countP_cons]
  have h0 : visB T n u 0 = false := by simp [visB]
  rw [h0]
  have := List.countP_le_length (p := visB T n u) (l := (List.range N).map Nat.succ)
  simp at this ⊢
  exact this
theorem intsV_set (l : List Int) (m : Nat) (v : Int) : intsV (l.set m v) = (intsV l).set m (.int .i64 v) := by
  simp [intsV, List.map_set]
theorem reach_more {T : TreeD} {u n : Int} (h : Reach T u n) (h0 : 0 < u) : Reach T (parentF T u) n := by
  induction h with
  | here => exact .up h0 .here
  | up h1 _ ih => exact .up h1 ih
theorem szs_small (T : TreeD) (n : Nat) (u : Int) (m : Nat) (h : m < (szs T n u).length) : 0 ≤ (szs T n u)[m] ∧ (szs T n u)[m] ≤ n + 1 := by
  rw [szs_get]
  have := upto_le T n m
  have h2 : (if visB T n u m then 1 else 0) ≤ 1 := by split <;> omega
  generalize (if visB T n u m then 1 else 0) = z at *
  omega
end Go.Proofs.YtclflmjpdglgiaaGreat
