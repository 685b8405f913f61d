import Derived.Test.YtclflmjpdglgiaaGreatOpenLV
import Derived.Test.YtclflmjpdglgiaaGreatTreeAll
import Derived.Test.YtclflmjpdglgiaaGreatRfD
/-
  A tree up to what it avoids: what is done to it does not hang on that. Plain Lean, no Go.
-/
namespace Go.Proofs.YtclflmjpdglgiaaGreat
open Go.RowKit Mem

theorem drewN_below (w : World) (n : Nat) : Below w.heap.size w (w.drewN n) := ⟨rfl, rfl, rfl, Nat.le_refl _, fun _ _ => rfl⟩
def farW (F : Nat → Prop) (T : TreeD) : TreeD := ⟨T.nodes, T.most, F⟩
theorem mkF_farW (F : Nat → Prop) (T : TreeD) (d : ND) : mkF (farW F T) d = (farW F (mkF T d).1, (mkF T d).2) := by
  unfold mkF
  by_cases h : (T.nodes.length : Int) - 1 < T.most
  · rw [if_pos h, if_pos (show ((farW F T).nodes.length : Int) - 1 < (farW F T).most from h)]
    rfl
  · rw [if_neg h, if_neg (show ¬ ((farW F T).nodes.length : Int) - 1 < (farW F T).most from h)]
theorem likeF_farW (F : Nat → Prop) (T : TreeD) (n : Int) : likeF (farW F T) n = (farW F (likeF T n).1, (likeF T n).2) := by
  unfold likeF
  have he : elemF (farW F T) n = elemF T n := rfl
  rw [he]
  cases elemF T n
  · rfl
  · exact mkF_farW F T _
theorem belowF_farW (F : Nat → Prop) (T : TreeD) (n top : Int) : belowF (farW F T) n top = belowF T n top := by
  rw [Bool.eq_iff_iff]
  simp only [belowF, decide_eq_true_eq, reachV]
  rfl
theorem kidsOff_farW (F : Nat → Prop) (T : TreeD) (n : Int) : kidsOff (farW F T) n = farW F (kidsOff T n) := by
  unfold kidsOff
  have hp : parentF (farW F T) n = parentF T n := rfl
  rw [hp]
  split <;> rfl
theorem takeF_farW (F : Nat → Prop) (T : TreeD) (n : Int) : takeF (farW F T) n = farW F (takeF T n) := by rw [takeF, kidsOff_farW]; rfl
theorem takeE_farW (F : Nat → Prop) (T : TreeD) (n : Int) : takeE (farW F T) n = (farW F (takeE T n).1, (takeE T n).2) := by
  unfold takeE
  have he : isF (farW F T) n = isF T n := rfl
  rw [he, takeF_farW]
  split <;> rfl
theorem putE_farW (F : Nat → Prop) (T : TreeD) (a b n : Int) : putE (farW F T) a b n = (farW F (putE T a b n).1, (putE T a b n).2) := by
  unfold putE
  have he : putOk (farW F T) a b n = putOk T a b n := by
    unfold putOk
    rw [belowF_farW]
    rfl
  rw [he]
  split
  · rw [putF, takeF_farW]; rfl
  · rfl
theorem textE_farW (F : Nat → Prop) (T : TreeD) (a b : Int) (s : ByteArray) : textE (farW F T) a b s = (farW F (textE T a b s).1, (textE T a b s).2) := by
  unfold textE
  have h1 : holdsF (farW F T) a = holdsF T a := rfl
  have h2 : placeF (farW F T) a b = placeF T a b := rfl
  rw [h1, h2]
  split
  · split
    · rfl
    · unfold textAt
      rw [h2]
      have h3 : ∀ i, elemF (farW F T) (prevF (farW F T) a i) = elemF T (prevF T a i) := fun _ => rfl
      have h4 : (farW F T).nodes.length = T.nodes.length := rfl
      have h5 : (farW F T).most = T.most := rfl
      simp only [h3, h4, h5]
      split
      · rfl
      · split <;> rfl
  · rfl
theorem moveF_farW (F : Nat → Prop) (b : Int) : ∀ (l : List Int) (T : TreeD), moveF (farW F T) b l = farW F (moveF T b l)
  | [], _ => rfl
  | x :: r, T => by
    show moveF (putE (farW F T) b 0 x).1 b r = farW F (moveF (putE T b 0 x).1 b r)
    rw [putE_farW]
    exact moveF_farW F b r _
theorem moveE_farW (F : Nat → Prop) (T : TreeD) (a b : Int) : moveE (farW F T) a b = (farW F (moveE T a b).1, (moveE T a b).2) := by
  unfold moveE
  have h1 : ∀ x, holdsF (farW F T) x = holdsF T x := fun _ => rfl
  have h2 : kidsF (farW F T) a = kidsF T a := rfl
  rw [h1, h1, h2, belowF_farW, moveF_farW]
  split <;> rfl

/-- the blocks of a law that are none of ex -/
def Own (w0 : World) (ex : Nat → Prop) : Nat → Prop := fun k => w0.heap.size ≤ k ∧ ¬ ex k
end Go.Proofs.YtclflmjpdglgiaaGreat

/-
  Contract: colanderlaw14.shown: it returns true; the world behind has new blocks alone.
-/
namespace Go.Proofs.YtclflmjpdglgiaaGreat
open Go.RowKit Mem

/-- is n below top, reckoned in so many steps -/
def belowC : Nat → TreeD → Int → Int → Option Bool
  | 0, _, _, _ => none
  | k + 1, T, n, top => if n = top then some true else if 0 < n then belowC k T (parentF T n) top else some false
theorem belowC_eq : ∀ (k : Nat) (T : TreeD) (n top : Int) (b : Bool), belowC k T n top = some b → belowF T n top = b
  | 0, _, _, _, _, h => by cases h
  | k + 1, T, n, top, b, h => by
    unfold belowC at h
    split at h
    · rename_i e
      cases h
      rw [e]
      exact belowF_true .here
    · rename_i hne
      split at h
      · rename_i h0
        rw [belowF_congr (reach_up h0 hne)]
        exact belowC_eq k T _ top b h
      · rename_i h0
        cases h
        rw [belowF_low (by omega)]
        simpa using hne
theorem putE_yes {T : TreeD} {a b n : Int} (k : Nat) (h1 : holdsF T a = true) (h2 : isF T n = true) (h3 : (b != n) = true) (h4 : decide (0 ≤ placeF T a b) = true) (h5 : belowC k T a n = some false) : putE T a b n = (putF T a b n, 0) := by
  rw [putE, if_pos]
  simp only [putOk, h1, h2, h3, h4, belowC_eq k T a n false h5]
  rfl
theorem putE_below {T : TreeD} {a b n : Int} (k : Nat) (h5 : belowC k T a n = some true) : putE T a b n = (T, 47) := by
  rw [putE, if_neg]
  simp only [putOk, belowC_eq k T a n true h5]
  simp

def aS : ByteArray := (⟨#[97]⟩ : ByteArray)
def bS14 : ByteArray := (⟨#[98]⟩ : ByteArray)
def cS : ByteArray := (⟨#[99]⟩ : ByteArray)
def R0 : TreeD := ⟨[rootN], 9, noFar⟩
def R3 : TreeD := ⟨[rootN, elemN 0 aS [], elemN 0 bS14 [], elemN 0 cS []], 9, noFar⟩
def R6 : TreeD := putF (putF (putF R3 0 0 1) 1 0 2) 1 2 3
def R8 : TreeD := (textE (textE R6 1 2 (⟨#[120]⟩ : ByteArray)).1 1 2 (⟨#[121]⟩ : ByteArray)).1

theorem r_mk0 : mkF R0 (elemN 0 aS []) = (⟨[rootN, elemN 0 aS []], 9, noFar⟩, 1, 0) := rfl
theorem r_mk1 : mkF ⟨[rootN, elemN 0 aS []], 9, noFar⟩ (elemN 0 bS14 []) = (⟨[rootN, elemN 0 aS [], elemN 0 bS14 []], 9, noFar⟩, 2, 0) := rfl
theorem r_mk2 : mkF ⟨[rootN, elemN 0 aS [], elemN 0 bS14 []], 9, noFar⟩ (elemN 0 cS []) = (R3, 3, 0) := rfl
theorem r_put0 : putE R3 0 0 1 = (putF R3 0 0 1, 0) := putE_yes 5 rfl rfl rfl rfl rfl
theorem r_put1 : putE (putF R3 0 0 1) 1 0 2 = (putF (putF R3 0 0 1) 1 0 2, 0) := putE_yes 5 rfl rfl rfl rfl rfl
theorem r_put2 : putE (putF (putF R3 0 0 1) 1 0 2) 1 2 3 = (R6, 0) := putE_yes 5 rfl rfl rfl rfl rfl
theorem r_text1 : (textE R6 1 2 (⟨#[120]⟩ : ByteArray)).2 = 0 := rfl
theorem r_text2 : (textE (textE R6 1 2 (⟨#[120]⟩ : ByteArray)).1 1 2 (⟨#[121]⟩ : ByteArray)).2 = 0 := rfl
theorem r_kids : kidsQ R8 1 = [3, 4, 2] := rfl
theorem r_put3 : putE R8 2 0 1 = (R8, 47) := putE_below 5 rfl
theorem r_len : (R8.nodes.length : Int) - 1 = 4 := rfl
theorem r_par1 : (if isF R8 2 then parentF R8 2 else -1) = 1 := rfl
theorem r_par2 : (if isF R8 1 then parentF R8 1 else -1) = 0 := rfl

theorem root_wf (most : Int) : WF ⟨[rootN], most, noFar⟩ := by
  refine ⟨Nat.one_pos, rfl, ?_, ?_, ?_, ?_, ⟨fun _ => 0, ?_⟩, ?_⟩ <;> intro i hi <;> simp at hi <;> subst hi
  · simp [parentF, rootN]
  · intro k hk; simp [kidsF, rootN] at hk
  · intro h; simp [parentF, rootN] at h
  · simp [kidsF, rootN]
  · intro h; simp [parentF, rootN] at h
  · intro h; simp [kidsF, rootN] at h

theorem New_ti (most : Int) (hm : most ≤ 5000) (w0 w : World) (hb : Below w0.heap.size w0 w) : Calls Tryz.prog 13 #[.int .i64 most] w fun e w' =>
    ∃ tb g, e = .returned (.pointer (some ⟨tb, 0, none⟩)) ∧ TI w0 0 tb ⟨[rootN], most, noFar⟩ g w' ∧ w.heap.size ≤ tb ∧ w.heap.size ≤ g ∧ Below w.heap.size w w' := by
  refine (New_any most w).mono ?_
  rintro e w' ⟨tb, g, he, hT, h1, h2, hb1⟩
  have hs := hb.size
  refine ⟨tb, g, he, ⟨hT, root_wf most, belowCall hb hb1, by omega, by omega, by simp, hm, ?_, ?_⟩, h1, h2, hb1⟩
  · intro d hd
    simp only [List.mem_singleton] at hd
    subst hd
    exact Nat.zero_le _
  · intro d hd
    simp only [List.mem_singleton] at hd
    subst hd
    exact Nat.le_refl _

end Go.Proofs.YtclflmjpdglgiaaGreat

/-
  The document's tree through a law's calls: what holds of it and of the world, and each call's contract in that form. (Beside it blocks of other things may lie, that are left alone.)
-/
namespace Go.Proofs.YtclflmjpdglgiaaGreat
open Go.RowKit Mem

/-- a tree of the document (up to what it avoids); ex: blocks of other things -/
structure RIo (w0 : World) (B rb : Nat) (ex : Nat → Prop) (T : TreeD) (w : World) (gn gk : Nat) (far : Nat → Prop) : Prop where
  tree : RefO w rb gn gk (farW far T)
  wf : WF T
  below : Below w0.heap.size w0 w
  own : ∀ k, Three rb gn gk k → w0.heap.size ≤ k
  exf : ∀ k, ex k → far k
  len : T.nodes.length ≤ 1000000
  most : T.most ≤ 5000
  att : ∀ d ∈ T.nodes, d.attrs.length ≤ 1048576
  txt : ∀ d ∈ T.nodes, d.text.size ≤ B
def RI (w0 : World) (B rb : Nat) (ex : Nat → Prop) (T : TreeD) (w : World) : Prop := ∃ gn gk far, RIo w0 B rb ex T w gn gk far

theorem RefO.faravoid {w : World} {rb gn gk : Nat} {T : TreeD} (h : RefO w rb gn gk T) : ∀ k, T.far k → k < w.heap.size ∧ ¬ Three rb gn gk k := by
  obtain ⟨_, _, _, _, h⟩ := h
  exact h.avoid
theorem RefO.foreign {F far' : Nat → Prop} {w w' : World} {rb gn gk : Nat} {T : TreeD} (h : RefO w rb gn gk T) (hk : Keeps F w w') (hF : ∀ k, F k → T.far k) (hf : ∀ k, far' k → (T.far k ∨ w.heap.size ≤ k) ∧ k < w'.heap.size) : RefO w' rb gn gk (farW far' T) := by
  obtain ⟨a, b, c, d, h⟩ := h
  exact ⟨a, b, c, d, h.foreign hk hF hf⟩
theorem wf_far {T : TreeD} (F : Nat → Prop) (h : WF T) : WF (farW F T) := ⟨h.pos, h.root, h.par, h.kid, h.mem, h.nodup, h.rank, h.holds⟩

section
variable {w0 w w' : World} {B B' rb gn gk gn' gk' : Nat} {ex far : Nat → Prop} {T T' : TreeD}
theorem RIo.step (h : RIo w0 B rb ex T w gn gk far) (hk : Keeps (Three rb gn gk) w w') (hT : RefO w' rb gn' gk' (farW far T')) (h1 : gn' = gn ∨ w.heap.size ≤ gn') (h2 : gk' = gk ∨ w.heap.size ≤ gk') (hw : WF T') (hl : T'.nodes.length ≤ 1000000) (hm : T'.most = T.most)
    (ha : ∀ d ∈ T'.nodes, d.attrs.length ≤ 1048576) (ht : ∀ d ∈ T'.nodes, d.text.size ≤ B') : RI w0 B' rb ex T' w' ∧ Keeps (Own w0 ex) w w' := by
  have hsz := h.below.size
  refine ⟨⟨gn', gk', far, hT, hw, h.below.trans (hk.below (fun k hk' hx => by have := h.own k hx; omega) hsz), ?_, h.exf, hl, by rw [hm]; exact h.most, ha, ht⟩, hk.mono fun k _ hx => ⟨h.own k hx, fun hx' => (h.tree.faravoid k (h.exf k hx')).2 hx⟩⟩
  rintro k (rfl | rfl | rfl)
  · exact h.own _ (.inl rfl)
  · rcases h1 with rfl | h1
    · exact h.own _ (.inr (.inl rfl))
    · omega
  · rcases h2 with rfl | h2
    · exact h.own _ (.inr (.inr rfl))
    · omega
theorem RI.wf (h : RI w0 B rb ex T w) : WF T := by
  obtain ⟨_, _, _, h⟩ := h
  exact h.wf
theorem RI.len (h : RI w0 B rb ex T w) : T.nodes.length ≤ 1000000 := by
  obtain ⟨_, _, _, h⟩ := h
  exact h.len
theorem RI.below (h : RI w0 B rb ex T w) : Below w0.heap.size w0 w := by
  obtain ⟨_, _, _, h⟩ := h
  exact h.below
theorem RI.exlt (h : RI w0 B rb ex T w) : ∀ k, ex k → k < w.heap.size := by
  obtain ⟨_, _, _, h⟩ := h
  exact fun k hk => (h.tree.faravoid k (h.exf k hk)).1
theorem RI.att (h : RI w0 B rb ex T w) : ∀ d ∈ T.nodes, d.attrs.length ≤ 1048576 := by
  obtain ⟨_, _, _, h⟩ := h
  exact h.att
theorem RI.txt (h : RI w0 B rb ex T w) : ∀ d ∈ T.nodes, d.text.size ≤ B := by
  obtain ⟨_, _, _, h⟩ := h
  exact h.txt
theorem RI.more (h : RI w0 B rb ex T w) (hB : B ≤ B') : RI w0 B' rb ex T w := by
  obtain ⟨gn, gk, far, h⟩ := h
  exact ⟨gn, gk, far, h.tree, h.wf, h.below, h.own, h.exf, h.len, h.most, h.att, fun d hd => Nat.le_trans (h.txt d hd) hB⟩
/-- a call on other things -/
theorem RI.foreign {ex' F : Nat → Prop} (h : RI w0 B rb ex T w) (hk : Keeps F w w') (hF : ∀ k, k < w.heap.size → F k → ex k ∧ w0.heap.size ≤ k) (he : ∀ k, ex' k → (ex k ∨ w.heap.size ≤ k) ∧ k < w'.heap.size) : RI w0 B rb ex' T w' := by
  obtain ⟨gn, gk, far, h⟩ := h
  have hk2 : Keeps (fun k => F k ∧ k < w.heap.size) w w' := hk.mono fun k hk hx => ⟨hx, hk⟩
  have hT := h.tree.foreign (far' := fun k => far k ∨ ex' k) hk2 (fun k hx => h.exf k (hF k hx.2 hx.1).1) fun k hx => by
    rcases hx with hx | hx
    · exact ⟨.inl hx, Nat.lt_of_lt_of_le (h.tree.faravoid k hx).1 hk.size⟩
    · exact ⟨(he k hx).1.imp (h.exf k) id, (he k hx).2⟩
  exact ⟨gn, gk, _, hT, h.wf, h.below.trans (hk2.below (fun k hk' hx => by have := (hF k hx.2 hx.1).2; omega) h.below.size), h.own, fun k hk => .inr hk, h.len, h.most, h.att, h.txt⟩
theorem RI.world (h : RI w0 B rb ex T w) (hb : Below w.heap.size w w') : RI w0 B rb ex T w' :=
  h.foreign (F := fun _ => False) (Keeps.ofBelow hb) (fun _ _ h => h.elim) fun k hk => ⟨.inl hk, Nat.lt_of_lt_of_le (h.exlt k hk) hb.size⟩

theorem rElem_ri (h : RI w0 B rb ex T w) (sp : Int) (nm : ByteArray) (l : List Pair) (n : Nat) (a : Option Addr) (c : Nat) (hnl : n = l.length) (hc : a = none → c = 0) (hlen : l.length ≤ 1048576) (ha : At w a (pairsV l)) :
    Calls Tryz.prog 93 #[.pointer (some ⟨rb, 0, none⟩), .int .i64 sp, .string nm, .slice a n c] w fun e w' =>
      e = .returned (.tuple #[.int .i64 (mkF T (elemN sp nm l)).2.1, .int .i64 (mkF T (elemN sp nm l)).2.2]) ∧ RI w0 B rb ex (mkF T (elemN sp nm l)).1 w' ∧ Keeps (Own w0 ex) w w' := by
  obtain ⟨gn, gk, far, h⟩ := h
  refine (rElem_any (farW far T) rb gn gk w sp nm l n hnl a c hc hlen (by have := h.len; simp only [farW]; omega) h.tree ha).mono ?_
  rintro e w' ⟨gn', gk', hK, h1, h2, he, hT⟩
  rw [mkF_farW] at he hT
  have hw := mkF_wf h.wf (elemN sp nm l) rfl rfl
  exact ⟨he, h.step hK hT h1 h2 hw.1 (mkF_len _ h.len h.most) hw.2 (mkF_all h.att hlen) (mkF_all h.txt (Nat.zero_le _))⟩
theorem rLike_ri (h : RI w0 B rb ex T w) (n : Int) :
    Calls Tryz.prog 105 #[.pointer (some ⟨rb, 0, none⟩), .int .i64 n] w fun e w' =>
      e = .returned (.tuple #[.int .i64 (likeF T n).2.1, .int .i64 (likeF T n).2.2]) ∧ RI w0 B rb ex (likeF T n).1 w' ∧ Keeps (Own w0 ex) w w' := by
  obtain ⟨gn, gk, far, h⟩ := h
  have hat : ∀ i (h : i < T.nodes.length), T.nodes[i].attrs.length ≤ 1048576 := fun _ _ => h.att _ (List.getElem_mem _)
  refine (rLike_any (farW far T) rb gn gk w n (by have := h.len; simp only [farW]; omega) hat h.tree).mono ?_
  rintro e w' ⟨gn', gk', hK, h1, h2, he, hT⟩
  rw [likeF_farW] at he hT
  refine ⟨he, ?_⟩
  unfold likeF at hT ⊢
  split
  · rename_i hel
    rw [if_pos hel] at hT
    have hw := mkF_wf h.wf (elemN (spaceQ T n) (nameQ T n) (attrsQ T n)) rfl rfl
    exact h.step hK hT h1 h2 hw.1 (mkF_len _ h.len h.most) hw.2 (mkF_all h.att (attrsQ_short hat n)) (mkF_all h.txt (Nat.zero_le _))
  · rename_i hel
    rw [if_neg hel] at hT
    exact h.step hK hT h1 h2 h.wf h.len rfl h.att h.txt
theorem rPut_ri (h : RI w0 B rb ex T w) (a b n : Int) :
    Calls Tryz.prog 94 #[.pointer (some ⟨rb, 0, none⟩), .int .i64 a, .int .i64 b, .int .i64 n] w fun e w' =>
      e = .returned (.int .i64 (putE T a b n).2) ∧ RI w0 B rb ex (putE T a b n).1 w' ∧ Keeps (Own w0 ex) w w' := by
  obtain ⟨gn, gk, far, h⟩ := h
  refine (rPut_any (farW far T) rb gn gk w a b n (wf_far far h.wf) (by have := h.len; simp only [farW]; omega) h.tree).mono ?_
  rintro e w' ⟨he, hT, hK⟩
  rw [putE_farW] at he hT
  have hw := putE_wf h.wf a b n
  exact ⟨he, h.step hK hT (.inl rfl) (.inl rfl) hw.1 (by rw [hw.2.1]; exact h.len) hw.2.2 (putE_all _ _ _ h.att (fun _ _ h => h) fun _ _ h => h) (putE_all _ _ _ h.txt (fun _ _ h => h) fun _ _ h => h)⟩
theorem rTake_ri (h : RI w0 B rb ex T w) (n : Int) :
    Calls Tryz.prog 73 #[.pointer (some ⟨rb, 0, none⟩), .int .i64 n] w fun e w' =>
      e = .returned (.int .i64 (takeE T n).2) ∧ RI w0 B rb ex (takeE T n).1 w' ∧ Keeps (Own w0 ex) w w' := by
  obtain ⟨gn, gk, far, h⟩ := h
  refine (rTake_any (farW far T) rb gn gk w n (wf_far far h.wf) (by have := h.len; simp only [farW]; omega) h.tree).mono ?_
  rintro e w' ⟨he, hT, hK⟩
  rw [takeE_farW] at he hT
  have hw := takeE_wf h.wf n
  exact ⟨he, h.step hK hT (.inl rfl) (.inl rfl) hw.1 (by rw [hw.2.1]; exact h.len) hw.2.2 (takeE_all _ h.att (fun _ _ h => h) fun _ _ h => h) (takeE_all _ h.txt (fun _ _ h => h) fun _ _ h => h)⟩
theorem rText_ri (h : RI w0 B rb ex T w) (a b : Int) (s : ByteArray) (hB : B + s.size ≤ B') (hB' : B' ≤ 9223372036854775807) :
    Calls Tryz.prog 59 #[.pointer (some ⟨rb, 0, none⟩), .int .i64 a, .int .i64 b, .string s] w fun e w' =>
      e = .returned (.int .i64 (textE T a b s).2) ∧ RI w0 B' rb ex (textE T a b s).1 w' ∧ Keeps (Own w0 ex) w w' := by
  obtain ⟨gn, gk, far, h⟩ := h
  refine (rText_any (farW far T) rb gn gk w a b s (wf_far far h.wf) (by have := h.len; simp only [farW]; omega) (fun i (hi : i < T.nodes.length) => by have := h.txt _ (List.getElem_mem hi); show T.nodes[i].text.size + s.size ≤ _; omega) h.tree).mono ?_
  rintro e w' ⟨gn', gk', hK, h1, h2, he, hT⟩
  rw [textE_farW] at he hT
  have hw := textE_wf h.wf a b s
  refine ⟨he, h.step hK hT h1 h2 hw.1 (textE_len _ _ _ h.len h.most) hw.2 (textE_all (P := fun d => d.attrs.length ≤ 1048576) _ _ _ h.att (fun _ h => h) (fun _ h => h) (Nat.zero_le _) (fun _ _ h => h) fun _ _ h => h)
    (textE_all (P := fun d => d.text.size ≤ B) _ _ _ h.txt (fun d hd => by omega) (fun d hd => ?_) ?_ (fun _ _ h => h) fun _ _ h => h)⟩
  · show (d.text ++ s).size ≤ B'
    rw [ByteArray.size_append]
    omega
  · show s.size ≤ B'
    omega
theorem moveF_all {P : ND → Prop} (b : Int) (hk : ∀ d l, P d → P (setKids l d)) (hp : ∀ d p, P d → P (setParent p d)) : ∀ (l : List Int) (T : TreeD), (∀ d ∈ T.nodes, P d) → ∀ d ∈ (moveF T b l).nodes, P d
  | [], _, h => h
  | x :: r, T, h => moveF_all b hk hp r (putE T b 0 x).1 (putE_all b 0 x h hk hp)
theorem moveF_wf (b : Int) : ∀ (l : List Int) (T : TreeD), WF T → WF (moveF T b l) ∧ (moveF T b l).nodes.length = T.nodes.length ∧ (moveF T b l).most = T.most
  | [], _, h => ⟨h, rfl, rfl⟩
  | x :: r, T, h => by
    have h1 := putE_wf h b 0 x
    have h2 := moveF_wf b r (putE T b 0 x).1 h1.1
    exact ⟨h2.1, h2.2.1.trans h1.2.1, h2.2.2.trans h1.2.2⟩
theorem moveE_wf {T : TreeD} (hw : WF T) (a b : Int) : WF (moveE T a b).1 ∧ (moveE T a b).1.nodes.length = T.nodes.length ∧ (moveE T a b).1.most = T.most := by
  unfold moveE
  split
  · exact moveF_wf b _ T hw
  · exact ⟨hw, rfl, rfl⟩
theorem moveE_all {P : ND → Prop} {T : TreeD} (a b : Int) (h : ∀ d ∈ T.nodes, P d) (hk : ∀ d l, P d → P (setKids l d)) (hp : ∀ d p, P d → P (setParent p d)) : ∀ d ∈ (moveE T a b).1.nodes, P d := by
  unfold moveE
  split
  · exact moveF_all b hk hp _ T h
  · exact h
theorem rMove_ri (h : RI w0 B rb ex T w) (a b : Int) :
    Calls Tryz.prog 107 #[.pointer (some ⟨rb, 0, none⟩), .int .i64 a, .int .i64 b] w fun e w' =>
      e = .returned (.int .i64 (moveE T a b).2) ∧ RI w0 B rb ex (moveE T a b).1 w' ∧ Keeps (Own w0 ex) w w' := by
  obtain ⟨gn, gk, far, h⟩ := h
  refine (rMove_any (farW far T) rb gn gk w a b (wf_far far h.wf) (by have := h.len; simp only [farW]; omega) h.tree).mono ?_
  rintro e w' ⟨he, hT, hK⟩
  rw [moveE_farW] at he hT
  have hw := moveE_wf h.wf a b
  exact ⟨he, h.step hK hT (.inl rfl) (.inl rfl) hw.1 (by rw [hw.2.1]; exact h.len) hw.2.2 (moveE_all _ _ h.att (fun _ _ h => h) fun _ _ h => h) (moveE_all _ _ h.txt (fun _ _ h => h) fun _ _ h => h)⟩
theorem rNew_ri (w0 w : World) (most : Int) (hm : most ≤ 5000) (ex : Nat → Prop) (hex : ∀ k, ex k → k < w.heap.size) (hb : Below w0.heap.size w0 w) : Calls Tryz.prog 55 #[.int .i64 most] w fun e w' =>
    ∃ rb, e = .returned (.pointer (some ⟨rb, 0, none⟩)) ∧ RI w0 0 rb ex ⟨[rootN], most, noFar⟩ w' ∧ Below w.heap.size w w' := by
  refine (rNew_any most w).mono ?_
  rintro e w' ⟨rb, gn, gk, he, hT, h1, h2, h3, hb2⟩
  have hsz := hb.size
  have hT2 : RefO w' rb gn gk (farW ex ⟨[rootN], most, noFar⟩) := by
    obtain ⟨a, b, c, d, h⟩ := hT
    have hRoot : ∀ (F : Nat → Prop) cs, RNode F w' cs rootN ↔ ∃ aa ac, cs = cellsR rootN aa ac ∧ ac ≤ maxLen ∧ (aa = none → ac = 0) := fun F cs => by
      constructor
      · rintro ⟨aa, ac, q1, _, q3, q4, _⟩
        exact ⟨aa, ac, q1, q3, q4⟩
      · rintro ⟨aa, ac, q1, q3, q4⟩
        exact ⟨aa, ac, q1, Nat.zero_le _, q3, q4, fun j u hj => by simp [rootN, pairsV] at hj⟩
    refine ⟨a, b, c, d, h.n1, h.n2, h.n3, h.head, h.ownN, h.ownK, h.lenN, ?_, ?_, fun k hk => ⟨Nat.lt_of_lt_of_le (hex k hk) hb2.size, ?_⟩⟩
    · intro i q1 q2
      have q3 := h.nodes i q1 q2
      have q4 : i = 0 := by simpa [farW] using q2
      subst q4
      exact (hRoot _ _).2 ((hRoot _ _).1 q3)
    · intro i q1 q2
      have q3 := h.kids i q1 q2
      have q4 : i = 0 := by simpa [farW] using q2
      subst q4
      obtain ⟨ka, kc, e1, e2, e3, e4, _⟩ := q3
      exact ⟨ka, kc, e1, e2, e3, e4, fun j u hj => by simp [farW, rootN, intsV] at hj⟩
    · have := hex k hk
      rintro (e | e | e) <;> omega
  refine ⟨rb, he, ⟨gn, gk, ex, hT2, root_wf most, hb.trans (hb2.mono hsz), ?_, fun k hk => hk, by simp, hm, ?_, ?_⟩, hb2⟩
  · rintro k (e | e | e) <;> omega
  · intro d hd
    simp at hd
    subst hd
    exact Nat.zero_le _
  · intro d hd
    simp at hd
    subst hd
    exact Nat.zero_le _
end
end Go.Proofs.YtclflmjpdglgiaaGreat
