import Derived.StillTail
import Derived.Test.YtclflmjpdglgiaaGreatRfA
import Derived.StillTactics
import Derived.Test.YtclflmjpdglgiaaGreatOpenIK
/-
  A drawn region whose loads all lie ahead of one operation that writes, behind which nothing touches the world (a call with several results): each operation once, in the text's order. No conditions beyond those that each lemma types.
-/
namespace Go.Proofs.YtclflmjpdglgiaaGreat.Mem
open Go

section
variable {P : Program} {ops : Array Oper} {md : Region.Mode} {w : World}

/-- each operation behind the n-th waits for one between -/
def sinksB (md : Region.Mode) (ops : Array Oper) (n : Nat) : Bool :=
  (List.range ops.size).all fun t => decide (t ≤ n) || (List.range t).any fun s => decide (n ≤ s) && Region.waitsFor md ops t s

theorem waits_end {n : Nat} {listed : Array Bool} (hs : Region.sinkB md ops n = true) (hc : sinksB md ops n = true) (inv : HeadInv md ops n listed) {i : Nat} (hi : i < n) (hn : n < ops.size) (hun : listed.getD i true = false) :
    ∀ t, n ≤ t → t ∉ Region.ready md ops listed := by
  intro t ht hr
  obtain ⟨_, ot, hot, hall⟩ := mem_ready.1 hr
  rcases Nat.lt_or_ge n t with htn | htn
  · have h1 := List.all_eq_true.1 hc t (List.mem_range.2 (Array.getElem?_eq_some_iff.1 hot).1)
    rw [Bool.or_eq_true, decide_eq_true_eq] at h1
    obtain ⟨s, hs1, hs2⟩ := List.any_eq_true.1 (h1.resolve_left (by omega))
    rw [Bool.and_eq_true, decide_eq_true_eq] at hs2
    obtain ⟨o', ho', e, he, hb, hon⟩ := Region.waitsFor_spec hs2.2
    obtain rfl := Option.some.inj (ho'.symm.trans hot)
    have h2 := hall e he hb
    have hst := List.mem_range.1 hs1
    have htlt := (Array.getElem?_eq_some_iff.1 hot).1
    rw [hon, getD_both (inv.tail s hs2.1 (by omega))] at h2
    cases h2
  · obtain rfl : t = n := by omega
    -- the highest unlisted one below
    suffices H : ∀ d k, t - k = d → k < t → listed.getD k true = false → False from H _ i rfl hi hun
    intro d
    induction d using Nat.strongRecOn with
    | _ d ih =>
      intro k hd hk hk0
      obtain ⟨j, hj, hj2⟩ := List.any_eq_true.1 (List.all_eq_true.1 hs k (List.mem_range.2 hk))
      rw [Bool.and_eq_true, decide_eq_true_eq] at hj2
      obtain ⟨oj, hoj, e, he, hb, hon⟩ := Region.waitsFor_spec hj2.2
      have hjt := List.mem_range.1 hj
      rcases Nat.lt_or_ge j t with hlt | hge
      · cases hl : listed.getD j false with
        | true =>
          have h2 := inv.closed j oj hoj hl e he hb
          rw [hon, getD_both hk0] at h2
          cases h2
        | false => exact ih (t - j) (by omega) j rfl hlt (getD_in (by rw [inv.size]; omega) hl)
      · obtain rfl : j = t := by omega
        obtain rfl := Option.some.inj (hoj.symm.trans hot)
        have h2 := hall e he hb
        rw [hon, getD_both hk0] at h2
        cases h2

theorem head_first {n i : Nat} {oi : Oper} {v : Value} {L : Array Bool → Act → Prop} (hi : ops[i]? = some oi) (hsel : ∀ (j : Nat) (o : Oper) cs b, ops[j]? = some o → o.op ≠ .select cs b)
    (hs : Region.sinkB md ops n = true) (hc : sinksB md ops n = true) (hn : n < ops.size) (hin : i < n) (hdone : ∀ listed a, L listed a → ∀ j ∈ Region.ready md ops listed, n ≤ j) :
    ∀ (f : Nat) (listed : Array Bool) (a : Act), HeadInv md ops n listed →
      (∀ j oj, ops[j]? = some oj → j ≠ i → listed.getD j true = false → (∀ e ∈ oj.after, Region.binds md e = true → e.on ≠ i) → oi.apart ops oj = true) →
      i ∈ Region.ready md ops listed → YieldsAt P ops w oi v a → wpAnyL P md ops w n L f (listed.setIfInBounds i true) (a.put oi.dst v) → wpAnyL P md ops w n L (f + 1) listed a := by
  intro f
  induction f with
  | zero =>
    intro listed a inv _ hr hy H
    have hw := waits_end hs hc inv hin hn (mem_ready.1 hr).1
    refine ⟨fun h => (by rw [h] at hr; cases hr), fun j hj => ⟨Nat.lt_of_not_le fun h => hw j h hj, ?_⟩⟩
    by_cases hji : j = i
    · subst hji; exact hy.stOp hi H
    · exact absurd (hdone _ _ H j (ready_mono hj hji)) fun h => hw j h hj
  | succ f ih =>
    intro listed a inv hfree hr hy H
    have hun := (mem_ready.1 hr).1
    have hw := waits_end hs hc inv hin hn hun
    refine ⟨fun h => (by rw [h] at hr; cases hr), fun j hj => ?_⟩
    have hjn : j < n := Nat.lt_of_not_le fun h => hw j h hj
    refine ⟨hjn, ?_⟩
    by_cases hji : j = i
    · subst hji; exact hy.stOp hi H
    · obtain ⟨hjun, oj, hoj, hall⟩ := mem_ready.1 hj
      have hnot : ∀ e ∈ oj.after, Region.binds md e = true → e.on ≠ i := fun e he hb heq => by
        have h1 := hall e he hb
        rw [heq, getD_both hun] at h1
        cases h1
      refine stOp_mono (fun a' h3 => ih (listed.setIfInBounds j true) a' (inv.set hj hjn) (fun k ok hk hki hunk hno => hfree k ok hk hki ?_ hno) (ready_mono hr (Ne.symm hji)) h3.1 ?_)
        (stOp_put hoj (hfree j oj hoj hji hjun hnot) (fun cs b => hsel i oi cs b hi) (fun cs b => hsel j oj cs b hoj) hy (H.2 j (ready_mono hj hji)).2)
      · by_cases hjk : j = k
        · subst hjk; exact hjun
        · rwa [getD_set_ne true hjk] at hunk
      · rw [Array.setIfInBounds_comm _ _ hji]; exact h3.2

/-- the head in the text's order is possible; then the n-th stands alone, then the rest in the text's order -/
def headB (md : Region.Mode) (ops : Array Oper) (n : Nat) : Nat → Nat → Array Bool → Bool
  | 0, _, listed => decide (Region.ready md ops listed = [n]) && Region.lexFrom md ops (ops.size - n - 1) (n + 1) (listed.setIfInBounds n true)
  | f + 1, k, listed => (Region.ready md ops listed).contains k && Region.free md ops listed k && headB md ops n f (k + 1) (listed.setIfInBounds k true)
def endB (md : Region.Mode) (ops : Array Oper) (n : Nat) : Bool :=
  Region.noSelect ops && decide (n < ops.size) && Region.sinkB md ops n && sinksB md ops n && headB md ops n n 0 (Array.replicate ops.size false)

theorem head_lex {n : Nat} {Lq : Act → Prop} (hsel : Region.noSelect ops = true) (hs : Region.sinkB md ops n = true) (hc : sinksB md ops n = true) (hn : n < ops.size) :
    ∀ (l : List Oper) (k : Nat) (listed : Array Bool) (a : Act), (∀ j, j < l.length → l[j]? = ops[k + j]?) → k + l.length = n → HeadInv md ops n listed →
    headB md ops n l.length k listed = true → wpStill P ops w Lq l a →
    wpAnyL P md ops w n (fun x a' => (Region.ready md ops x = [n] ∧ Region.lexFrom md ops (ops.size - n - 1) (n + 1) (x.setIfInBounds n true) = true) ∧ Lq a') l.length listed a
  | [], k, listed, a, _, hk, _, hB, h => by
    have hB : headB md ops n 0 k listed = true := hB
    rw [headB, Bool.and_eq_true, decide_eq_true_eq] at hB
    exact ⟨hB, h⟩
  | o :: l, k, listed, a, hl, hk, inv, hB, h => by
    have h0 : ops[k]? = some o := by simpa using (hl 0 (by simp)).symm
    simp only [List.length_cons, headB, Bool.and_eq_true] at hB
    obtain ⟨⟨hr, hf⟩, hB'⟩ := hB
    have hkn : k < n := by simp only [List.length_cons] at hk; omega
    have hr' : k ∈ Region.ready md ops listed := by simpa using hr
    obtain ⟨v, hy, hK⟩ := yieldsAt_of_stOp h0 (show stOp P ops w k (wpStill P ops w Lq l) a by unfold stOp; simp only [h0]; exact h)
    refine head_first h0 (Region.noSelect_spec hsel) hs hc hn hkn (fun x a' hL j hj => ?_) l.length listed a inv (Region.free_spec h0 hf) hr' hy
      (head_lex hsel hs hc hn l (k + 1) _ _ (fun j hj => by have := hl (j + 1) (by simp; omega); simpa [Nat.add_assoc, Nat.add_comm 1 j] using this) (by simp only [List.length_cons] at hk; omega) (inv.set hr' hkn) hB' hK)
    rw [hL.1.1] at hj
    have := List.mem_singleton.1 hj
    omega

theorem region_end {id : Nat} {Q : Exit → Act → World → Prop} {a : Act} {w : World} {l : List Oper} {o : Oper} (n : Nat) (hm : P.follows .mixedOrders = true) (hB : endB .any l.toArray n = true) (ho : l[n]? = some o)
    (h : wpStill P l.toArray w.drew (fun a' => ∀ K : Act → World → Prop, (∀ b u, wpStill P l.toArray u (fun c => Q .normal c u) (l.drop (n + 1)) b → K b u) → if Region.wanted o (yielded l.toArray a'.tmps) then o.wp P a' w.drew K Q else K (a'.put o.dst undef) w.drew) (l.take n) a) : (Code.region id l.toArray true).wp P Q a w := by
  simp only [endB, Bool.and_eq_true, decide_eq_true_eq] at hB
  obtain ⟨⟨⟨⟨hsel, hn⟩, hs⟩, hc⟩, hlex⟩ := hB
  have hn' : n < l.length := by simpa using hn
  have htl : (l.take n).length = n := by simp; omega
  have hdl : (l.drop (n + 1)).length = l.toArray.size - n - 1 := by simp; omega
  have inv0 : HeadInv .any l.toArray n (Array.replicate l.toArray.size false) :=
    ⟨by simp, fun j oj _ hl => (by rw [getD_replicate_false] at hl; cases hl), fun t _ ht => getD_in (by simpa using ht) (getD_replicate_false _ _)⟩
  have H := head_lex (md := .any) hsel hs hc hn (l.take n) 0 _ a (fun j hj => by
    have hj' : j < n := by rw [htl] at hj; exact hj
    simp [hj']) (by simpa using htl) inv0 (by rw [htl]; exact hlex) h
  refine wp_region_any hm ?_
  have := wpAny_of_head (Q' := Q) (g := l.toArray.size - n) (fun x a' hL => ?_) _ _ _ H
  · rw [htl, show n + (l.toArray.size - n) = l.toArray.size by omega] at this
    exact this
  · rw [show l.toArray.size - n = (l.toArray.size - n - 1) + 1 by omega]
    refine ⟨fun h0 => (by rw [hL.1.1] at h0; cases h0), fun i hi => ?_⟩
    rw [hL.1.1] at hi
    obtain rfl := List.mem_singleton.1 hi
    have h2 := hL.2 (wpAny P .any l.toArray Q (l.toArray.size - i - 1) (x.setIfInBounds i true)) fun b u h2 => by
      rw [← hdl]
      exact wpAny_of_still (fun _ h => h) _ _ _ (wpAnyS_lex hsel (l.drop (i + 1)) (i + 1) _ _ (fun j => by simp [List.getElem?_drop]) (by rw [hdl]; exact hL.1.2) h2)
    unfold wpOp
    simp only [List.getElem?_toArray, ho]
    split
    · rename_i hwn; rw [if_pos hwn] at h2; exact .inl h2
    · rename_i hwn; rw [if_neg hwn] at h2; exact h2
end
end Go.Proofs.YtclflmjpdglgiaaGreat.Mem

/-
  Contract: (*colanderref14.Tree).Like: an element like another one is added, or refused.
-/
namespace Go.Proofs.YtclflmjpdglgiaaGreat
open Go.RowKit Mem

set_option maxRecDepth 100000 in
set_option maxHeartbeats 2000000 in
theorem rLike_any (T : TreeD) (rb gn gk : Nat) (w : World) (n : Int) (hn : T.nodes.length ≤ 1048576) (hat : ∀ i (h : i < T.nodes.length), T.nodes[i].attrs.length ≤ 1048576) (h : RefO w rb gn gk T) :
    Calls Tryz.prog 105 #[.pointer (some ⟨rb, 0, none⟩), .int .i64 n] w fun e w' =>
      ∃ gn' gk', Keeps (Three rb gn gk) w w' ∧ (gn' = gn ∨ w.heap.size ≤ gn') ∧ (gk' = gk ∨ w.heap.size ≤ gk') ∧ e = .returned (.tuple #[.int .i64 (likeF T n).2.1, .int .i64 (likeF T n).2.2]) ∧ RefO w' rb gn' gk' (likeF T n).1 := by
  have HI := Lib.hid (relem_any T rb gn gk w n h)
  have HR := Lib.hid h
  cases he : elemF T n
  · have HP : Hid (likeF T n = (T, 0, 47)) := by show _ = _; rw [likeF, he]; rfl
    rw [he] at HI
    clear h
    go_enter Tryz.func105, Tryz.ntmps105
    go_wp2_with (go_at_call 97; go_must (refine HI.out.mono ?_; rintro e w1 ⟨rfl, rfl⟩))
    go_ret2
    rw [HP.out]
    exact ⟨gn, gk, Keeps.refl _ _, .inl rfl, .inl rfl, rfl, HR.out⟩
  · obtain ⟨i, hi, rfl, _, _⟩ := elemF_nat he
    obtain ⟨e1, e2, e3⟩ := what_of hi he
    have HP : Hid (likeF T i = mkF T (elemN T.nodes[i].space T.nodes[i].name T.nodes[i].attrs)) := by show _ = _; rw [likeF, he, e1, e2, e3]; rfl
    rw [he] at HI
    obtain ⟨capn, capk, p1, p2, _, _, c0, _, _, _⟩ := h.head
    obtain ⟨_, _, _, _, h'⟩ := h
    obtain ⟨aa, ac, a1, a2, a3, a4, hc, _⟩ := h'.node hi
    have d1 := hc 1 _ rfl
    have d2 := hc 2 _ rfl
    have d3 := hc 3 _ rfl
    have HE := Lib.hid (fun u (hu : Below w.heap.size w u) => rElem_any T rb gn gk u T.nodes[i].space T.nodes[i].name T.nodes[i].attrs _ rfl aa ac a3 (hat i hi) hn (HR.out.below hu) (a4.at.below hu))
    unfold maxLen at p2
    clear h' hc a3 a4 e1 e2 e3
    go_enter Tryz.func105, Tryz.ntmps105
    go_wp2_with (go_at_call 97; go_must (refine HI.out.mono ?_; rintro e w1 ⟨rfl, rfl⟩))
    refine region_end 25 (by kernel_rfl) (by kernel_rfl) rfl ?_
    simp only [List.take_succ_cons, List.take_zero]
    have hbd := (Below.refl w.heap.size w).drew
    have HED := Lib.hid (HE.out _ hbd)
    have D0 := cell_later hbd c0
    repeat still_step
    refine wpStill_nil ?_
    intro K hK
    go_simp
    refine HED.out.mono ?_
    rintro e w5 ⟨gn', gk', hK5, hg1, hg2, rfl, hR⟩
    dsimp only
    refine hK _ _ ?_
    clear hK K
    have HK := Lib.hid ((Keeps.ofBelow (F := Three rb gn gk) hbd).trans hK5)
    have HRR := Lib.hid hR
    have HG1 := Lib.hid hg1
    have HG2 := Lib.hid hg2
    clear hK5 hR hg1 hg2 HED
    simp only [List.drop_succ_cons, List.drop_zero]
    repeat still_step
    refine wpStill_nil ?_
    go_wp2_with fail
    go_ret2
    rw [HP.out]
    exact ⟨gn', gk', HK.out, HG1.out, HG2.out, rfl, HRR.out⟩
end Go.Proofs.YtclflmjpdglgiaaGreat

/-
  Contract: (*colanderref14.Tree).Take: a node is taken out of where it is.
-/
namespace Go.Proofs.YtclflmjpdglgiaaGreat
open Go.RowKit Mem

/-- kids are laid: a row that is all its own -/
theorem RefO.layK {w : World} {rb gn gk : Nat} {T : TreeD} (h : RefO w rb gn gk T) {i : Nat} (hi : i < T.nodes.length) {B : Nat} {v : Value} {l : List Int} {n : Nat} (hn : n = l.length) (ho : w.ownsRow B 3 1 v n (intsV l)) (hB : ∀ k, DatR T.far rb gn gk k → k < B) :
    RefO (w.setCell ⟨gk, i, none⟩ v) rb gn gk (modN T i (setKids l)) := by
  subst hn
  obtain ⟨capn, capk, Ns, Ks, h⟩ := h
  obtain ⟨ka, kc, rfl, k1, k2, k3, k4⟩ := own_atF (F := DatR T.far rb gn gk) ho hB
  rw [modN_of T i _ hi]
  exact ⟨_, _, _, _, h.writeK hi _ l ⟨ka, kc, rfl, k1, k2, k3, k4⟩⟩
theorem RefO.layP {w : World} {rb gn gk : Nat} {T : TreeD} (h : RefO w rb gn gk T) {i : Nat} (hi : i < T.nodes.length) (p : Int) : RefO (w.setCell ⟨gn, i * 6 + 5, none⟩ (.int .i64 p)) rb gn gk (modN T i (setParent p)) := by
  obtain ⟨capn, capk, Ns, Ks, h⟩ := h
  rw [modN_of T i _ hi]
  obtain ⟨Ns', h'⟩ := h.writeN hi 5 (by omega) (.int .i64 p) (setParent p T.nodes[i]) rfl (fun cs hc => by
    obtain ⟨aa, ac, h1, h2, h3, h4, h5⟩ := hc
    exact ⟨aa, ac, by rw [h1]; rfl, h2, h3, h4, h5⟩)
  exact ⟨_, _, _, _, h'⟩
/-- what its cells hold -/
theorem RefO.kidc {w : World} {rb gn gk : Nat} {T : TreeD} (h : RefO w rb gn gk T) {i : Nat} (hi : i < T.nodes.length) : ∃ ka kc, (kidsF T i).length ≤ kc ∧ kc ≤ maxLen ∧ RowForm ka kc ∧ AtF (DatR T.far rb gn gk) w ka (intsV (kidsF T i)) ∧ w.cell? ⟨gk, i, none⟩ = some (.slice ka (kidsF T i).length kc) ∧ w.frozen? ⟨gk, i, none⟩ = false := by
  obtain ⟨_, _, _, _, h⟩ := h
  obtain ⟨ka, kc, h1, h2, h3, h4, h5, h6⟩ := h.kid hi
  rw [kidsF_of T i hi]
  exact ⟨ka, kc, h1, h2, h3, h4, h5, h6 i⟩
theorem RefO.parc {w : World} {rb gn gk : Nat} {T : TreeD} (h : RefO w rb gn gk T) {i : Nat} (hi : i < T.nodes.length) : w.cell? ⟨gn, i * 6 + 5, none⟩ = some (.int .i64 (parentF T i)) ∧ w.frozen? ⟨gn, i * 6 + 5, none⟩ = false := by
  obtain ⟨_, _, _, _, h⟩ := h
  obtain ⟨aa, ac, _, _, _, _, hc, hf⟩ := h.node hi
  rw [parentF_of T i hi]
  exact ⟨hc 5 _ rfl, hf _⟩
theorem RefO.apart {w : World} {rb gn gk : Nat} {T : TreeD} (h : RefO w rb gn gk T) : rb ≠ gn ∧ rb ≠ gk ∧ gn ≠ gk := by
  obtain ⟨_, _, _, _, h⟩ := h
  exact ⟨h.n1, h.n2, h.n3⟩
theorem filter_next (p : Int → Bool) (l : List Int) (k : Nat) (h : k < l.length) : (l.take (k + 1)).filter p = (l.take k).filter p ++ if p l[k] then [l[k]] else [] := by
  have : l.take (k + 1) = l.take k ++ [l[k]] := by rw [List.take_add_one]; simp [h]
  rw [this, List.filter_append]
  split <;> simp [*]

set_option maxRecDepth 100000 in
set_option maxHeartbeats 4000000 in
theorem rtake_kid (T : TreeD) (rb gn gk : Nat) (w : World) (n a : Nat) (hn1 : 1 ≤ n) (hn : n < T.nodes.length) (ha : a < T.nodes.length) (hp : parentF T n = a) (hkl : (kidsF T a).length ≤ 2097152) (h : RefO w rb gn gk T) :
    Calls Tryz.prog 73 #[.pointer (some ⟨rb, 0, none⟩), .int .i64 n] w fun e w' => e = .returned (.int .i64 0) ∧ RefO w' rb gn gk (takeF T n) ∧ Keeps (Three rb gn gk) w w' := by
  obtain ⟨capn, capk, p1, p2, p3, p4, c0, c1, _, l1, l2, l3⟩ := h.head
  obtain ⟨n1, n2, n3⟩ := h.apart
  obtain ⟨ka, kc, hk1, hk2, hk3, hk, d, f1⟩ := h.kidc ha
  obtain ⟨d5, f5⟩ := h.parc hn
  rw [hp] at d5
  obtain ⟨l, hl⟩ : ∃ l, l = kidsF T a := ⟨_, rfl⟩
  have HF : Hid (modN (modN T a (setKids (l.filter (· != (n : Int))))) n (setParent (-1)) = takeF T n) := Lib.hid (by rw [takeF, kidsOff, hp, if_pos (by omega), ← hl])
  rw [← hl] at d hk hk1 hkl
  have HA := Lib.hid hk.at
  have HR := Lib.hid h
  have HAv := Lib.hid h.avoid
  have hle : ¬ ((T.nodes.length : Int) ≤ n) := by omega
  have hlt1 : ¬ ((n : Int) < 1) := by omega
  obtain ⟨i0, hi, hz0, hz1, hz2⟩ := info_parts info_int
  unfold maxLen at p2 p4 hk2
  clear h hk hl hk3 hp
  go_enter Tryz.func73, Tryz.ntmps73
  go_wp2_with fail
  go_loopw [6, 7] (fun v i wr => ∃ (k : Nat) (y : Value), y = v ∧ k ≤ l.length ∧ i = .int .i64 k ∧ wr.ownsRow w.heap.size 3 1 y ((l.take k).filter (· != (n : Int))).length (intsV ((l.take k).filter (· != (n : Int)))) ∧ Below w.heap.size w wr) (fun _ i _ => l.length - (intOf i).toNat)
  case atStart => exact ⟨0, _, rfl, Nat.zero_le _, rfl, World.ownsRow_nil _ _ _ _, Below.refl _ _⟩
  case round =>
    obtain ⟨k, v, rfl, hk, rfl, ho, hb⟩ := hrel
    have c0' := cell_later hb c0
    have c1' := cell_later hb c1
    have d' := cell_later hb d
    have d5' := cell_later hb d5
    have f1' := (hb.frozen (p := ⟨gk, a, none⟩) l3).trans f1
    have f5' := (hb.frozen (p := ⟨gn, n * 6 + 5, none⟩) l2).trans f5
    have HO := Lib.hid ho
    have HB := Lib.hid hb
    have HAt := Lib.hid (HA.out.below hb)
    clear c0 c1 d f1 f5
    by_cases hlt : k < l.length
    · obtain ⟨b, o, rfl, e1⟩ := HAt.out _ _ (intsV_get l k hlt)
      have HN := Lib.hid (filter_next (· != (n : Int)) l k hlt)
      have hml : ((l.take k).filter (· != (n : Int))).length ≤ 2097152 := by
        have := List.length_filter_le (· != (n : Int)) (l.take k)
        rw [List.length_take] at this
        omega
      generalize hM : (l.take k).filter (· != (n : Int)) = M at *
      clear hM
      by_cases he : l[k] = (n : Int)
      · have he' : (l[k] == (n : Int)) = true := by simpa using he
        have he2 : (l[k] != (n : Int)) = false := by simpa using he
        have HE : Hid ((l.take (k + 1)).filter (· != (n : Int)) = M) := Lib.hid (by rw [HN.out, if_neg (by simp [he]), List.append_nil])
        clear he ho hb
        go_wp2_with fail
        go_roundw
        case rel => exact ⟨k + 1, _, rfl, by omega, by go_num, by rw [HE.out]; exact HO.out, HB.out⟩
        case measure => simp [intOf]; omega
      · have he' : (l[k] == (n : Int)) = false := by simpa using he
        have he2 : (l[k] != (n : Int)) = true := by simpa using he
        have HE : Hid ((l.take (k + 1)).filter (· != (n : Int)) = M ++ [l[k]]) := Lib.hid (by rw [HN.out, if_pos (by simp [he])])
        have b1 : M.length + 1 ≤ maxLen := by unfold maxLen; omega
        have b2 : (M.length + 1) * 8 ≤ 140737488355328 := by omega
        have HZ := Lib.hid hb.size
        have HQ := Lib.hid (HO.out.alloc (.cells #[.int .i64 l[k]] 3))
        have HZ2 := Lib.hid (show w.heap.size ≤ (wr.alloc (.cells #[.int .i64 l[k]] 3)).heap.size from by have := HZ.out; simp; omega)
        clear he ho hb
        go_wp2_with (at_builtin; go_must (refine wpList_append_slice _ rfl _ _ 30 rfl w.heap.size 3 i0 _ 1 8 Tryz.underlying30 hi hz0 hz1 hz2 rfl (by decide) _ M.length (intsV M) rfl HQ.out (some ⟨wr.heap.size, 0, none⟩) 1 1 (intsV [l[k]]) rfl rfl (fun h => by cases h) (at_alloc rfl rfl) (intsV_one _) b1 b2 HZ2.out ?_; intro v3 w3 hown3 hgr3; have HO3 := Lib.hid hown3; have HB3 := Lib.hid ((HB.out.alloc HZ.out _).grown hgr3 HZ2.out (fun b hb => (HQ.out.lt b hb).1)); clear hown3 hgr3))
        go_roundw
        case rel => exact ⟨k + 1, _, rfl, by omega, by go_num, by rw [HE.out, intsV_append, List.length_append]; exact HO3.out, HB3.out⟩
        case measure => simp [intOf]; omega
    · have he : l.take k = l := List.take_of_length_le (by omega)
      rw [he] at HO
      obtain ⟨av, cv, rfl, _, _, _, _⟩ := own_at HO.out
      have HRb := HR.out.below hb
      have HK := HRb.layK ha rfl HO.out HAv.out
      have HP := Lib.hid (HK.layP (i := n) (by rw [modN_len]; exact hn) (-1))
      have HKK := ((Keeps.ofBelow (F := Three rb gn gk) hb).set (p := ⟨gk, a, none⟩) (.inl (.inr (.inr rfl))) (.slice av (l.filter (· != (n : Int))).length cv)).set (p := ⟨gn, n * 6 + 5, none⟩) (.inl (.inr (.inl rfl))) (.int .i64 (-1))
      have HKh := Lib.hid HKK
      obtain ⟨capn2, capk2, q1, q2, q3, q4, x0, x1, _, _⟩ := HK.head
      have x5 := (HK.parc (i := n) (by rw [modN_len]; exact hn)).2
      rw [modN_len] at q1 x0
      unfold maxLen at q2
      clear HRb HK HKK ho hb he
      go_wp2_with fail
      go_ret
      exact ⟨rfl, HF.out ▸ HP.out, HKh.out⟩
end Go.Proofs.YtclflmjpdglgiaaGreat

/-
  Contracts: (*colanderref14.Tree).Take, the whole; lay: a node among the kids, at a place.
-/
namespace Go.Proofs.YtclflmjpdglgiaaGreat
open Go.RowKit Mem

set_option maxHeartbeats 2000000 in
theorem rtake_none (T : TreeD) (rb gn gk : Nat) (w : World) (n : Nat) (hn1 : 1 ≤ n) (hn : n < T.nodes.length) (hp : parentF T n = -1) (h : RefO w rb gn gk T) :
    Calls Tryz.prog 73 #[.pointer (some ⟨rb, 0, none⟩), .int .i64 n] w fun e w' => e = .returned (.int .i64 0) ∧ RefO w' rb gn gk (takeF T n) ∧ Keeps (Three rb gn gk) w w' := by
  obtain ⟨capn, capk, p1, p2, p3, p4, c0, c1, _, l1, l2, l3⟩ := h.head
  obtain ⟨d5, f5⟩ := h.parc hn
  rw [hp] at d5
  have HF : Hid (modN T n (setParent (-1)) = takeF T n) := Lib.hid (by rw [takeF, kidsOff, hp, if_neg (by omega)])
  have HP := Lib.hid (h.layP hn (-1))
  have HKK := Lib.hid ((Keeps.refl (Three rb gn gk) w).set (p := ⟨gn, n * 6 + 5, none⟩) (.inl (.inr (.inl rfl))) (.int .i64 (-1)))
  have hle : ¬ ((T.nodes.length : Int) ≤ n) := by omega
  have hlt1 : ¬ ((n : Int) < 1) := by omega
  unfold maxLen at p2 p4
  clear h hp
  go_enter Tryz.func73, Tryz.ntmps73
  go_wp2_with fail
  go_ret
  exact ⟨rfl, HF.out ▸ HP.out, HKK.out⟩

set_option maxHeartbeats 2000000 in
theorem rtake_no (T : TreeD) (rb gn gk : Nat) (w : World) (n : Int) (hn : isF T n = false) (h : RefO w rb gn gk T) :
    Calls Tryz.prog 73 #[.pointer (some ⟨rb, 0, none⟩), .int .i64 n] w fun e w' => e = .returned (.int .i64 47) ∧ w = w' := by
  obtain ⟨capn, capk, p1, p2, p3, p4, c0, c1, _, l1, l2, l3⟩ := h.head
  unfold maxLen at p2 p4
  have hn' : n < 1 ∨ (T.nodes.length : Int) ≤ n := by
    simp only [isF, Bool.and_eq_false_iff, decide_eq_false_iff_not] at hn
    omega
  clear h hn
  by_cases h1 : n < 1
  · clear hn'
    go_enter Tryz.func73, Tryz.ntmps73
    go_wp2_with fail
    go_ret
    exact ⟨rfl, rfl⟩
  · have h2 : (T.nodes.length : Int) ≤ n := by omega
    clear hn'
    go_enter Tryz.func73, Tryz.ntmps73
    go_wp2_with fail
    go_ret
    exact ⟨rfl, rfl⟩

theorem rTake_any (T : TreeD) (rb gn gk : Nat) (w : World) (n : Int) (hw : WF T) (hlen : T.nodes.length ≤ 2097152) (h : RefO w rb gn gk T) :
    Calls Tryz.prog 73 #[.pointer (some ⟨rb, 0, none⟩), .int .i64 n] w fun e w' => e = .returned (.int .i64 (takeE T n).2) ∧ RefO w' rb gn gk (takeE T n).1 ∧ Keeps (Three rb gn gk) w w' := by
  cases hi : isF T n
  · have he : takeE T n = (T, 47) := by rw [takeE, hi]; rfl
    rw [he]
    exact (rtake_no T rb gn gk w n hi h).mono fun e w' ⟨h1, h2⟩ => by
      subst h2
      exact ⟨h1, h, Keeps.refl _ _⟩
  · have he : takeE T n = (takeF T n, 0) := by rw [takeE, hi]; rfl
    have hb := isF_lt hi
    obtain ⟨i, rfl⟩ := Int.eq_ofNat_of_zero_le (by omega : 0 ≤ n)
    rw [he]
    have hpar := hw.par i (by omega)
    by_cases hp : 0 ≤ parentF T i
    · obtain ⟨a, ha⟩ := Int.eq_ofNat_of_zero_le hp
      have hk := kids_short hw a (by omega)
      exact rtake_kid T rb gn gk w i a (by omega) (by omega) (by omega) ha (by omega) h
    · exact rtake_none T rb gn gk w i (by omega) (by omega) (by omega) h

/-- the kids that lay has gone over -/
def layT (l : List Int) (p : Nat) (n : Int) (k : Nat) : List Int := (l.take p ++ n :: l.drop p).take (if k ≤ p then k else k + 1)
theorem layT_len (l : List Int) (p : Nat) (n : Int) (k : Nat) : (layT l p n k).length ≤ l.length + 1 := by
  unfold layT
  refine Nat.le_trans (List.length_take_le' _ _) ?_
  simp only [List.length_append, List.length_take, List.length_cons, List.length_drop]
  omega
theorem layT_zero (l : List Int) (p : Nat) (n : Int) : layT l p n 0 = [] := by simp [layT]
theorem take_snoc' (X : List Int) (j : Nat) (x : Int) (h : X[j]? = some x) : X.take (j + 1) = X.take j ++ [x] := by
  rw [List.take_add_one, h]; rfl
theorem lay_lo (l : List Int) (p : Nat) (n : Int) (j : Nat) (hj : j < p) (hp : p ≤ l.length) : (l.take p ++ n :: l.drop p)[j]? = some (l[j]'(by omega)) := by
  rw [List.getElem?_append_left (by rw [List.length_take]; omega), List.getElem?_take_of_lt hj, List.getElem?_eq_getElem]
theorem lay_mid (l : List Int) (p : Nat) (n : Int) (hp : p ≤ l.length) : (l.take p ++ n :: l.drop p)[p]? = some n := by
  rw [List.getElem?_append_right (by rw [List.length_take]; omega), List.length_take, Nat.min_eq_left hp]; simp
theorem lay_hi (l : List Int) (p : Nat) (n : Int) (j : Nat) (hj : p ≤ j) (hl : j < l.length) : (l.take p ++ n :: l.drop p)[j + 1]? = some l[j] := by
  rw [List.getElem?_append_right (by rw [List.length_take]; omega), List.length_take, Nat.min_eq_left (by omega), show j + 1 - p = (j - p) + 1 by omega, List.getElem?_cons_succ, List.getElem?_drop, show p + (j - p) = j by omega, List.getElem?_eq_getElem hl]
theorem layT_other (l : List Int) (p : Nat) (n : Int) (k : Nat) (hp : p ≤ l.length) (hk : k < l.length) (hne : k ≠ p) : layT l p n (k + 1) = layT l p n k ++ [l[k]] := by
  unfold layT
  by_cases h : k < p
  · rw [if_pos (by omega), if_pos (by omega)]
    exact take_snoc' _ _ _ (lay_lo l p n k h hp)
  · rw [if_neg (by omega), if_neg (by omega)]
    exact take_snoc' _ _ _ (lay_hi l p n k (by omega) hk)
theorem layT_here (l : List Int) (p : Nat) (n : Int) (hp : p < l.length) : layT l p n (p + 1) = (layT l p n p ++ [n]) ++ [l[p]] := by
  unfold layT
  rw [if_neg (by omega), if_pos (by omega), take_snoc' _ _ _ (lay_hi l p n p (by omega) hp), take_snoc' _ _ _ (lay_mid l p n (by omega))]
theorem lay_len (l : List Int) (p : Nat) (n : Int) : (l.take p ++ n :: l.drop p).length = l.length + 1 := by
  simp only [List.length_append, List.length_take, List.length_cons, List.length_drop]
  omega
theorem layT_last (l : List Int) (p : Nat) (n : Int) (hp : p = l.length) : layT l p n (p + 1) = layT l p n p ++ [n] := by
  have h := lay_len l p n
  unfold layT
  rw [if_neg (by omega), if_pos (by omega), ← take_snoc' _ _ _ (lay_mid l p n (by omega))]
  generalize l.take p ++ n :: l.drop p = X at *
  rw [List.take_of_length_le (by omega : X.length ≤ p + 1 + 1), List.take_of_length_le (by omega : X.length ≤ p + 1)]
theorem layT_end (l : List Int) (p : Nat) (n : Int) (hp : p ≤ l.length) (hne : l.length ≠ p) : layT l p n (l.length + 1) = layT l p n l.length := by
  have h := lay_len l p n
  unfold layT
  rw [if_neg (by omega), if_neg (by omega)]
  generalize l.take p ++ n :: l.drop p = X at *
  rw [List.take_of_length_le (by omega : X.length ≤ l.length + 1 + 1), List.take_of_length_le (by omega : X.length ≤ l.length + 1)]
theorem layT_whole (l : List Int) (p : Nat) (n : Int) (hp : p ≤ l.length) : layT l p n (l.length + 1) = l.take p ++ n :: l.drop p := by
  unfold layT
  rw [if_neg (by omega), List.take_of_length_le (by simp; omega)]


set_option maxRecDepth 100000 in
set_option maxHeartbeats 8000000 in
theorem rlay_any (T : TreeD) (rb gn gk : Nat) (w : World) (a p n : Nat) (hn : n < T.nodes.length) (ha : a < T.nodes.length) (hp : p ≤ (kidsF T a).length) (hkl : (kidsF T a).length ≤ 2097152) (h : RefO w rb gn gk T) :
    Calls Tryz.prog 100 #[.pointer (some ⟨rb, 0, none⟩), .int .i64 a, .int .i64 p, .int .i64 n] w fun e w' => e = .returned (.tuple #[]) ∧ RefO w' rb gn gk (insertF T a p n) ∧ Keeps (Three rb gn gk) w w' := by
  obtain ⟨capn, capk, p1, p2, p3, p4, c0, c1, _, l1, l2, l3⟩ := h.head
  obtain ⟨n1, n2, n3⟩ := h.apart
  obtain ⟨ka, kc, hk1, hk2, hk3, hk, d, f1⟩ := h.kidc ha
  obtain ⟨d5, f5⟩ := h.parc hn
  obtain ⟨l, hl⟩ : ∃ l, l = kidsF T a := ⟨_, rfl⟩
  have HF : Hid (modN (modN T a (setKids (l.take p ++ (n : Int) :: l.drop p))) n (setParent a) = insertF T a p n) := Lib.hid (by rw [insertF, ← hl])
  rw [← hl] at d hk hk1 hkl hp
  have HA := Lib.hid hk.at
  have HR := Lib.hid h
  have HAv := Lib.hid h.avoid
  obtain ⟨i0, hi, hz0, hz1, hz2⟩ := info_parts info_int
  unfold maxLen at p2 p4 hk2
  clear h hk hl hk3
  go_enter Tryz.func100, Tryz.ntmps100
  go_wp2_with fail
  go_loopw [8, 9] (fun v i wr => ∃ (k : Nat) (y : Value), y = v ∧ k ≤ l.length + 1 ∧ i = .int .i64 k ∧ wr.ownsRow w.heap.size 3 1 y (layT l p n k).length (intsV (layT l p n k)) ∧ Below w.heap.size w wr) (fun _ i _ => l.length + 1 - (intOf i).toNat)
  case atStart => exact ⟨0, _, rfl, Nat.zero_le _, rfl, by rw [layT_zero]; exact World.ownsRow_nil _ _ _ _, Below.refl _ _⟩
  case round =>
    obtain ⟨k, v, rfl, hk, rfl, ho, hb⟩ := hrel
    have C1 := Lib.hid c1
    have D := Lib.hid d
    have c0' := cell_later hb c0
    have c1' := cell_later hb c1
    have d' := cell_later hb d
    have d5' := cell_later hb d5
    have f1' := (hb.frozen (p := ⟨gk, a, none⟩) l3).trans f1
    have f5' := (hb.frozen (p := ⟨gn, n * 6 + 5, none⟩) l2).trans f5
    have hml := layT_len l p n k
    have HO := Lib.hid ho
    have HB := Lib.hid hb
    have HZ := Lib.hid hb.size
    clear c0 c1 d f1 f5 d5
    have b1 : (layT l p n k).length + 1 ≤ maxLen := by unfold maxLen; omega
    have b2 : ((layT l p n k).length + 1) * 8 ≤ 140737488355328 := by omega
    have HQn := Lib.hid (HO.out.alloc (.cells #[.int .i64 (n : Int)] 3))
    have HZn := Lib.hid (show w.heap.size ≤ (wr.alloc (.cells #[.int .i64 (n : Int)] 3)).heap.size from by have := HZ.out; simp; omega)
    by_cases hlt : k < l.length
    · obtain ⟨b, o, rfl, e0⟩ := HA.out _ _ (intsV_get l k hlt)
      have e1 := cell_later hb e0
      have E0 := Lib.hid e0
      by_cases he : k = p
      · subst he
        have HE := Lib.hid (layT_here l k n hlt)
        have b3 : (layT l k n k).length + 1 + 1 ≤ maxLen := by unfold maxLen; omega
        have b4 : ((layT l k n k).length + 1 + 1) * 8 ≤ 140737488355328 := by omega
        generalize layT l k n k = M at *
        clear ho hb e0
        go_wp2_with (first
          | (at_builtin; (refine wpList_append_slice _ rfl (.tmp 25) (.tmp 27) 30 rfl w.heap.size 3 i0 _ 1 8 Tryz.underlying30 hi hz0 hz1 hz2 rfl (by decide) _ M.length (intsV M) rfl HQn.out (some ⟨wr.heap.size, 0, none⟩) 1 1 (intsV [(n : Int)]) rfl rfl (fun h => by cases h) (at_alloc rfl rfl) (intsV_one _) b1 b2 HZn.out ?_; intro v3 w3 hown3 hgr3; have HO3 := Lib.hid hown3; have HB3 := Lib.hid ((HB.out.alloc HB.out.size _).grown hgr3 HZn.out (fun b hb => (HQn.out.lt b hb).1)); clear hown3 hgr3; have c13 := cell_later HB3.out C1.out; have d3 := cell_later HB3.out D.out; have e3 := cell_later HB3.out E0.out; have HQ3 := Lib.hid (HO3.out.alloc (.cells #[.int .i64 l[k]] 3)); have HZ3 := Lib.hid (show w.heap.size ≤ (w3.alloc (.cells #[.int .i64 l[k]] 3)).heap.size from by have := HB3.out.size; simp; omega)))
          | (at_builtin; (refine wpList_append_slice _ rfl (.tmp 39) (.tmp 50) 30 rfl w.heap.size 3 i0 _ 1 8 Tryz.underlying30 hi hz0 hz1 hz2 rfl (by decide) _ (M.length + 1) (intsV M ++ intsV [(n : Int)]) rfl HQ3.out (some ⟨w3.heap.size, 0, none⟩) 1 1 (intsV [l[k]]) rfl rfl (fun h => by cases h) (at_alloc rfl rfl) (intsV_one _) b3 b4 HZ3.out ?_; intro v4 w4 hown4 hgr4; have HO4 := Lib.hid hown4; have HB4 := Lib.hid ((HB3.out.alloc HB3.out.size _).grown hgr4 HZ3.out (fun b hb => (HQ3.out.lt b hb).1)); clear hown4 hgr4)))
        go_roundw
        case rel => exact ⟨k + 1, _, rfl, by omega, by go_num, by rw [HE.out, intsV_append, intsV_append, List.length_append, List.length_append]; exact HO4.out, HB4.out⟩
        case measure => simp [intOf] <;> omega
      · have HE := Lib.hid (layT_other l p n k hp hlt he)
        have he' : ((k : Int) == (p : Int)) = false := by rw [beq_eq_false_iff_ne]; omega
        have HQk := Lib.hid (HO.out.alloc (.cells #[.int .i64 l[k]] 3))
        have HZk := Lib.hid (show w.heap.size ≤ (wr.alloc (.cells #[.int .i64 l[k]] 3)).heap.size from by have := HZ.out; simp; omega)
        generalize layT l p n k = M at *
        clear ho hb e0
        go_wp2_with (first
          | (at_builtin; go_must (refine wpList_append_slice _ rfl _ _ 30 rfl w.heap.size 3 i0 _ 1 8 Tryz.underlying30 hi hz0 hz1 hz2 rfl (by decide) _ M.length (intsV M) rfl HQk.out (some ⟨wr.heap.size, 0, none⟩) 1 1 (intsV [l[k]]) rfl rfl (fun h => by cases h) (at_alloc rfl rfl) (intsV_one _) b1 b2 HZk.out ?_; intro v3 w3 hown3 hgr3; have HO3 := Lib.hid hown3; have HB3 := Lib.hid ((HB.out.alloc HB.out.size _).grown hgr3 HZk.out (fun b hb => (HQk.out.lt b hb).1)); clear hown3 hgr3)))
        go_roundw
        case rel => exact ⟨k + 1, _, rfl, by omega, by go_num, by rw [HE.out, intsV_append, List.length_append]; exact HO3.out, HB3.out⟩
        case measure => simp [intOf] <;> omega
    · by_cases hke : k = l.length
      · subst hke
        by_cases he : l.length = p
        · have HE := Lib.hid (layT_last l p n he.symm)
          have he' : ((l.length : Int) == (p : Int)) = true := by rw [beq_iff_eq]; omega
          rw [← he] at HE
          clear ho hb
          subst he
          generalize layT l l.length n l.length = M at *
          go_wp2_with (first
            | (at_builtin; go_must (refine wpList_append_slice _ rfl _ _ 30 rfl w.heap.size 3 i0 _ 1 8 Tryz.underlying30 hi hz0 hz1 hz2 rfl (by decide) _ M.length (intsV M) rfl HQn.out (some ⟨wr.heap.size, 0, none⟩) 1 1 (intsV [(n : Int)]) rfl rfl (fun h => by cases h) (at_alloc rfl rfl) (intsV_one _) b1 b2 HZn.out ?_; intro v3 w3 hown3 hgr3; have HO3 := Lib.hid hown3; have HB3 := Lib.hid ((HB.out.alloc HB.out.size _).grown hgr3 HZn.out (fun b hb => (HQn.out.lt b hb).1)); clear hown3 hgr3; have c13 := cell_later HB3.out C1.out; have d3 := cell_later HB3.out D.out)))
          go_roundw
          case rel => exact ⟨l.length + 1, _, rfl, by omega, by go_num, by rw [HE.out, intsV_append, List.length_append]; exact HO3.out, HB3.out⟩
          case measure => simp [intOf] <;> omega
        · have HE := Lib.hid (layT_end l p n hp he)
          have he' : ((l.length : Int) == (p : Int)) = false := by rw [beq_eq_false_iff_ne]; omega
          clear ho hb
          go_wp2_with fail
          go_roundw
          case rel => exact ⟨l.length + 1, _, rfl, by omega, by go_num, by rw [HE.out]; exact HO.out, HB.out⟩
          case measure => simp [intOf] <;> omega
      · obtain rfl : k = l.length + 1 := by omega
        have HE := Lib.hid (layT_whole l p n hp)
        rw [HE.out] at HO
        obtain ⟨av, cv, rfl, _, _, _, _⟩ := own_at HO.out
        have HRb := HR.out.below hb
        have HK := HRb.layK ha rfl HO.out HAv.out
        have HP := Lib.hid (HK.layP (i := n) (by rw [modN_len]; exact hn) a)
        have HKh := Lib.hid (((Keeps.ofBelow (F := Three rb gn gk) hb).set (p := ⟨gk, a, none⟩) (.inl (.inr (.inr rfl))) (.slice av (l.take p ++ (n : Int) :: l.drop p).length cv)).set (p := ⟨gn, n * 6 + 5, none⟩) (.inl (.inr (.inl rfl))) (.int .i64 a))
        obtain ⟨capn2, capk2, q1, q2, q3, q4, x0, x1, _, _⟩ := HK.head
        have x5 := (HK.parc (i := n) (by rw [modN_len]; exact hn)).2
        rw [modN_len] at q1 x0
        unfold maxLen at q2
        generalize hX : l.take p ++ (n : Int) :: l.drop p = X at *
        clear HRb HK ho hb hX b1 b2
        go_wp2_with fail
        go_end0
        exact ⟨rfl, HF.out ▸ HP.out, HKh.out⟩
end Go.Proofs.YtclflmjpdglgiaaGreat
