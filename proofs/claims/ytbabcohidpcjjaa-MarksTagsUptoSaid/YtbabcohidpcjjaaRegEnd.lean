/-
  A drawn region whose loads all lie ahead of one operation that writes, behind which nothing touches the world (a call with several results): each operation once, in the text's order. No conditions beyond those that each lemma types.
-/
import Derived.StillTail
import Derived.StillTactics
import Derived.Test.YtbabcohidpcjjaaMem
namespace Go.Proofs.Ytbabcohidpcjjaa.Mem
open Go

section
variable {P : Program} {ops : Array Oper} {md : Region.Mode} {w : World}

/-- each operation behind the n-th waits for one between -/
def sinksB (md : Region.Mode) (ops : Array Oper) (n : Nat) : Bool :=
  (List.range ops.size).all fun t => decide (t ≤ n) || (List.range t).any fun s => decide (n ≤ s) && Region.waitsFor md ops t s

theorem waits_end {n : Nat} {listed : Array Bool} (hs : Region.sinkB md ops n = true) (hc : sinksB md ops n = true) (inv : HeadInv md ops n listed) {i : Nat} (hi : i < n) (hn : n < ops.size) (hun : listed.getD i true = false) :
    ∀ t, n ≤ t → t ∉ Region.ready md ops listed := by
  intro t ht hr
  obtain ⟨_, ot, hot, hall⟩ := mem_ready.1 hr
  rcases Nat.lt_or_ge n t with htn | htn
  · have h1 := List.all_eq_true.1 hc t (List.mem_range.2 (Array.getElem?_eq_some_iff.1 hot).1)
    rw [Bool.or_eq_true, decide_eq_true_eq] at h1
    obtain ⟨s, hs1, hs2⟩ := List.any_eq_true.1 (h1.resolve_left (by omega))
    rw [Bool.and_eq_true, decide_eq_true_eq] at hs2
    obtain ⟨o', ho', e, he, hb, hon⟩ := Region.waitsFor_spec hs2.2
    obtain rfl := Option.some.inj (ho'.symm.trans hot)
    have h2 := hall e he hb
    have hst := List.mem_range.1 hs1
    have htlt := (Array.getElem?_eq_some_iff.1 hot).1
    rw [hon, getD_both (inv.tail s hs2.1 (by omega))] at h2
    cases h2
  · obtain rfl : t = n := by omega
    -- the highest unlisted one below
    suffices H : ∀ d k, t - k = d → k < t → listed.getD k true = false → False from H _ i rfl hi hun
    intro d
    induction d using Nat.strongRecOn with
    | _ d ih =>
      intro k hd hk hk0
      obtain ⟨j, hj, hj2⟩ := List.any_eq_true.1 (List.all_eq_true.1 hs k (List.mem_range.2 hk))
      rw [Bool.and_eq_true, decide_eq_true_eq] at hj2
      obtain ⟨oj, hoj, e, he, hb, hon⟩ := Region.waitsFor_spec hj2.2
      have hjt := List.mem_range.1 hj
      rcases Nat.lt_or_ge j t with hlt | hge
      · cases hl : listed.getD j false with
        | true =>
          have h2 := inv.closed j oj hoj hl e he hb
          rw [hon, getD_both hk0] at h2
          cases h2
        | false => exact ih (t - j) (by omega) j rfl hlt (getD_in (by rw [inv.size]; omega) hl)
      · obtain rfl : j = t := by omega
        obtain rfl := Option.some.inj (hoj.symm.trans hot)
        have h2 := hall e he hb
        rw [hon, getD_both hk0] at h2
        cases h2

theorem head_first {n i : Nat} {oi : Oper} {v : Value} {L : Array Bool → Act → Prop} (hi : ops[i]? = some oi) (hsel : ∀ (j : Nat) (o : Oper) cs b, ops[j]? = some o → o.op ≠ .select cs b)
    (hs : Region.sinkB md ops n = true) (hc : sinksB md ops n = true) (hn : n < ops.size) (hin : i < n) (hdone : ∀ listed a, L listed a → ∀ j ∈ Region.ready md ops listed, n ≤ j) :
    ∀ (f : Nat) (listed : Array Bool) (a : Act), HeadInv md ops n listed →
      (∀ j oj, ops[j]? = some oj → j ≠ i → listed.getD j true = false → (∀ e ∈ oj.after, Region.binds md e = true → e.on ≠ i) → oi.apart ops oj = true) →
      i ∈ Region.ready md ops listed → YieldsAt P ops w oi v a → wpAnyL P md ops w n L f (listed.setIfInBounds i true) (a.put oi.dst v) → wpAnyL P md ops w n L (f + 1) listed a := by
  intro f
  induction f with
  | zero =>
    intro listed a inv _ hr hy H
    have hw := waits_end hs hc inv hin hn (mem_ready.1 hr).1
    refine ⟨fun h => (by rw [h] at hr; cases hr), fun j hj => ⟨Nat.lt_of_not_le fun h => hw j h hj, ?_⟩⟩
    by_cases hji : j = i
    · subst hji; exact hy.stOp hi H
    · exact absurd (hdone _ _ H j (ready_mono hj hji)) fun h => hw j h hj
  | succ f ih =>
    intro listed a inv hfree hr hy H
    have hun := (mem_ready.1 hr).1
    have hw := waits_end hs hc inv hin hn hun
    refine ⟨fun h => (by rw [h] at hr; cases hr), fun j hj => ?_⟩
    have hjn : j < n := Nat.lt_of_not_le fun h => hw j h hj
    refine ⟨hjn, ?_⟩
    by_cases hji : j = i
    · subst hji; exact hy.stOp hi H
    · obtain ⟨hjun, oj, hoj, hall⟩ := mem_ready.1 hj
      have hnot : ∀ e ∈ oj.after, Region.binds md e = true → e.on ≠ i := fun e he hb heq => by
        have h1 := hall e he hb
        rw [heq, getD_both hun] at h1
        cases h1
      refine stOp_mono (fun a' h3 => ih (listed.setIfInBounds j true) a' (inv.set hj hjn) (fun k ok hk hki hunk hno => hfree k ok hk hki ?_ hno) (ready_mono hr (Ne.symm hji)) h3.1 ?_)
        (stOp_put hoj (hfree j oj hoj hji hjun hnot) (fun cs b => hsel i oi cs b hi) (fun cs b => hsel j oj cs b hoj) hy (H.2 j (ready_mono hj hji)).2)
      · by_cases hjk : j = k
        · subst hjk; exact hjun
        · rwa [getD_set_ne true hjk] at hunk
      · rw [Array.setIfInBounds_comm _ _ hji]; exact h3.2

/-- the head in the text's order is possible; then the n-th stands alone, then the rest in the text's order -/
def headB (md : Region.Mode) (ops : Array Oper) (n : Nat) : Nat → Nat → Array Bool → Bool
  | 0, _, listed => decide (Region.ready md ops listed = [n]) && Region.lexFrom md ops (ops.size - n - 1) (n + 1) (listed.setIfInBounds n true)
  | f + 1, k, listed => (Region.ready md ops listed).contains k && Region.free md ops listed k && headB md ops n f (k + 1) (listed.setIfInBounds k true)
def endB (md : Region.Mode) (ops : Array Oper) (n : Nat) : Bool :=
  Region.noSelect ops && decide (n < ops.size) && Region.sinkB md ops n && sinksB md ops n && headB md ops n n 0 (Array.replicate ops.size false)

theorem head_lex {n : Nat} {Lq : Act → Prop} (hsel : Region.noSelect ops = true) (hs : Region.sinkB md ops n = true) (hc : sinksB md ops n = true) (hn : n < ops.size) :
    ∀ (l : List Oper) (k : Nat) (listed : Array Bool) (a : Act), (∀ j, j < l.length → l[j]? = ops[k + j]?) → k + l.length = n → HeadInv md ops n listed →
    headB md ops n l.length k listed = true → wpStill P ops w Lq l a →
    wpAnyL P md ops w n (fun x a' => (Region.ready md ops x = [n] ∧ Region.lexFrom md ops (ops.size - n - 1) (n + 1) (x.setIfInBounds n true) = true) ∧ Lq a') l.length listed a
  | [], k, listed, a, _, hk, _, hB, h => by
    have hB : headB md ops n 0 k listed = true := hB
    rw [headB, Bool.and_eq_true, decide_eq_true_eq] at hB
    exact ⟨hB, h⟩
  | o :: l, k, listed, a, hl, hk, inv, hB, h => by
    have h0 : ops[k]? = some o := by simpa using (hl 0 (by simp)).symm
    simp only [List.length_cons, headB, Bool.and_eq_true] at hB
    obtain ⟨⟨hr, hf⟩, hB'⟩ := hB
    have hkn : k < n := by simp only [List.length_cons] at hk; omega
    have hr' : k ∈ Region.ready md ops listed := by simpa using hr
    obtain ⟨v, hy, hK⟩ := yieldsAt_of_stOp h0 (show stOp P ops w k (wpStill P ops w Lq l) a by unfold stOp; simp only [h0]; exact h)
    refine head_first h0 (Region.noSelect_spec hsel) hs hc hn hkn (fun x a' hL j hj => ?_) l.length listed a inv (Region.free_spec h0 hf) hr' hy
      (head_lex hsel hs hc hn l (k + 1) _ _ (fun j hj => by have := hl (j + 1) (by simp; omega); simpa [Nat.add_assoc, Nat.add_comm 1 j] using this) (by simp only [List.length_cons] at hk; omega) (inv.set hr' hkn) hB' hK)
    rw [hL.1.1] at hj
    have := List.mem_singleton.1 hj
    omega

theorem region_end {id : Nat} {Q : Exit → Act → World → Prop} {a : Act} {w : World} {l : List Oper} {o : Oper} (n : Nat) (hm : P.follows .mixedOrders = true) (hB : endB .any l.toArray n = true) (ho : l[n]? = some o)
    (h : wpStill P l.toArray w.drew (fun a' => ∀ K : Act → World → Prop, (∀ b u, wpStill P l.toArray u (fun c => Q .normal c u) (l.drop (n + 1)) b → K b u) → if Region.wanted o (yielded l.toArray a'.tmps) then o.wp P a' w.drew K Q else K (a'.put o.dst undef) w.drew) (l.take n) a) : (Code.region id l.toArray true).wp P Q a w := by
  simp only [endB, Bool.and_eq_true, decide_eq_true_eq] at hB
  obtain ⟨⟨⟨⟨hsel, hn⟩, hs⟩, hc⟩, hlex⟩ := hB
  have hn' : n < l.length := by simpa using hn
  have htl : (l.take n).length = n := by simp; omega
  have hdl : (l.drop (n + 1)).length = l.toArray.size - n - 1 := by simp; omega
  have inv0 : HeadInv .any l.toArray n (Array.replicate l.toArray.size false) :=
    ⟨by simp, fun j oj _ hl => (by rw [getD_replicate_false] at hl; cases hl), fun t _ ht => getD_in (by simpa using ht) (getD_replicate_false _ _)⟩
  have H := head_lex (md := .any) hsel hs hc hn (l.take n) 0 _ a (fun j hj => by
    have hj' : j < n := by rw [htl] at hj; exact hj
    simp [hj']) (by simpa using htl) inv0 (by rw [htl]; exact hlex) h
  refine wp_region_any hm ?_
  have := wpAny_of_head (Q' := Q) (g := l.toArray.size - n) (fun x a' hL => ?_) _ _ _ H
  · rw [htl, show n + (l.toArray.size - n) = l.toArray.size by omega] at this
    exact this
  · rw [show l.toArray.size - n = (l.toArray.size - n - 1) + 1 by omega]
    refine ⟨fun h0 => (by rw [hL.1.1] at h0; cases h0), fun i hi => ?_⟩
    rw [hL.1.1] at hi
    obtain rfl := List.mem_singleton.1 hi
    have h2 := hL.2 (wpAny P .any l.toArray Q (l.toArray.size - i - 1) (x.setIfInBounds i true)) fun b u h2 => by
      rw [← hdl]
      exact wpAny_of_still (fun _ h => h) _ _ _ (wpAnyS_lex hsel (l.drop (i + 1)) (i + 1) _ _ (fun j => by simp [List.getElem?_drop]) (by rw [hdl]; exact hL.1.2) h2)
    unfold wpOp
    simp only [List.getElem?_toArray, ho]
    split
    · rename_i hwn; rw [if_pos hwn] at h2; exact .inl h2
    · rename_i hwn; rw [if_neg hwn] at h2; exact h2
end
end Go.Proofs.Ytbabcohidpcjjaa.Mem
