/-
  A tree through a law's calls: what holds of it and of the world, and each call's contract in that form.
-/
import Derived.Test.YtidbihdnginmcaaOpenM
namespace Go.Proofs.Ytidbihdnginmcaa
open Go.RowKit Mem

/-- a tree that a law has made: one, small, in blocks above those that stood when the law began -/
structure TI (w0 : World) (B tb : Nat) (T : TreeD) (g : Nat) (w : World) : Prop where
  tree : TreeO w tb g T
  wf : WF T
  below : Below w0.heap.size w0 w
  htb : w0.heap.size ≤ tb
  hg : w0.heap.size ≤ g
  len : T.nodes.length ≤ 1000000
  most : T.most ≤ 5000
  att : ∀ d ∈ T.nodes, d.attrs.length ≤ 1048576
  txt : ∀ d ∈ T.nodes, d.text.size ≤ B

theorem two_below {w0 w w' : World} {tb g : Nat} (hb : Below w0.heap.size w0 w) (htb : w0.heap.size ≤ tb) (hg : w0.heap.size ≤ g) (hk : Keeps (Two tb g) w w') : Below w0.heap.size w0 w' :=
  hb.trans (hk.below (fun k hk => by rintro (h | h) <;> omega) hb.size)
theorem TI.step {w0 w w' : World} {B B' tb g g' : Nat} {T T' : TreeD} (h : TI w0 B tb T g w) (hk : Keeps (Two tb g) w w') (hT : TreeO w' tb g' T') (hg : g' = g ∨ w.heap.size ≤ g') (hw : WF T') (hl : T'.nodes.length ≤ 1000000) (hm : T'.most = T.most)
    (ha : ∀ d ∈ T'.nodes, d.attrs.length ≤ 1048576) (ht : ∀ d ∈ T'.nodes, d.text.size ≤ B') : TI w0 B' tb T' g' w' where
  tree := hT
  wf := hw
  below := two_below h.below h.htb h.hg hk
  htb := h.htb
  hg := by
    have := h.below.size
    have := h.hg
    rcases hg with rfl | hg <;> omega
  len := hl
  most := by rw [hm]; exact h.most
  att := ha
  txt := ht
theorem TI.world {w0 w w' : World} {B tb g : Nat} {T : TreeD} (h : TI w0 B tb T g w) (hb : Below w.heap.size w w') : TI w0 B tb T g w' :=
  h.step (Keeps.ofBelow hb) (h.tree.below hb) (.inl rfl) h.wf h.len rfl h.att h.txt
theorem TI.more {w0 w : World} {B B' tb g : Nat} {T : TreeD} (h : TI w0 B tb T g w) (hB : B ≤ B') : TI w0 B' tb T g w :=
  ⟨h.tree, h.wf, h.below, h.htb, h.hg, h.len, h.most, h.att, fun d hd => Nat.le_trans (h.txt d hd) hB⟩
theorem TI.atti {w0 w : World} {B tb g : Nat} {T : TreeD} (h : TI w0 B tb T g w) : ∀ i (h : i < T.nodes.length), T.nodes[i].attrs.length ≤ 1048576 := fun _ _ => h.att _ (List.getElem_mem _)

theorem modN_all {P : ND → Prop} {T : TreeD} {f : ND → ND} (n : Int) (h : ∀ d ∈ T.nodes, P d) (hf : ∀ d, P d → P (f d)) : ∀ d ∈ (modN T n f).nodes, P d := by
  intro d hd
  obtain ⟨i, hi, rfl⟩ := List.getElem_of_mem hd
  simp only [modN, List.length_modify] at hi
  simp only [modN, List.getElem_modify]
  split
  · exact hf _ (h _ (List.getElem_mem _))
  · exact h _ (List.getElem_mem _)
theorem addF_all {P : ND → Prop} {T : TreeD} {d : ND} (h : ∀ d ∈ T.nodes, P d) (hd : P d) : ∀ x ∈ (addF T d).nodes, P x := by
  intro x hx
  simp only [addF, List.mem_append, List.mem_singleton] at hx
  rcases hx with hx | rfl
  · exact h x hx
  · exact hd
theorem takeF_all {P : ND → Prop} {T : TreeD} (n : Int) (h : ∀ d ∈ T.nodes, P d) (hk : ∀ d l, P d → P (setKids l d)) (hp : ∀ d p, P d → P (setParent p d)) : ∀ d ∈ (takeF T n).nodes, P d := by
  refine modN_all _ ?_ fun d hd => hp d _ hd
  unfold kidsOff
  split
  · exact modN_all _ h fun d hd => hk d _ hd
  · exact h
theorem insertF_all {P : ND → Prop} {T : TreeD} (a : Int) (i : Nat) (n : Int) (h : ∀ d ∈ T.nodes, P d) (hk : ∀ d l, P d → P (setKids l d)) (hp : ∀ d p, P d → P (setParent p d)) : ∀ d ∈ (insertF T a i n).nodes, P d :=
  modN_all _ (modN_all _ h fun d hd => hk d _ hd) fun d hd => hp d _ hd
theorem putE_all {P : ND → Prop} {T : TreeD} (a b n : Int) (h : ∀ d ∈ T.nodes, P d) (hk : ∀ d l, P d → P (setKids l d)) (hp : ∀ d p, P d → P (setParent p d)) : ∀ d ∈ (putE T a b n).1.nodes, P d := by
  unfold putE
  split
  · exact insertF_all _ _ _ (takeF_all _ h hk hp) hk hp
  · exact h
theorem takeE_all {P : ND → Prop} {T : TreeD} (n : Int) (h : ∀ d ∈ T.nodes, P d) (hk : ∀ d l, P d → P (setKids l d)) (hp : ∀ d p, P d → P (setParent p d)) : ∀ d ∈ (takeE T n).1.nodes, P d := by
  unfold takeE
  split
  · exact takeF_all _ h hk hp
  · exact h
theorem textE_all {P Q : ND → Prop} {T : TreeD} (a b : Int) (s : ByteArray) (h : ∀ d ∈ T.nodes, P d) (hPQ : ∀ d, P d → Q d) (hs : ∀ d, P d → Q (addText s d)) (hn : Q (textN s)) (hk : ∀ d l, Q d → Q (setKids l d)) (hp : ∀ d p, Q d → Q (setParent p d)) : ∀ d ∈ (textE T a b s).1.nodes, Q d := by
  have hQ : ∀ d ∈ T.nodes, Q d := fun d hd => hPQ d (h d hd)
  unfold textE
  split
  · split
    · exact hQ
    · unfold textAt
      split
      · intro d hd
        obtain ⟨i, hi, rfl⟩ := List.getElem_of_mem hd
        simp only [modN, List.length_modify] at hi
        simp only [modN, List.getElem_modify]
        split
        · exact hs _ (h _ (List.getElem_mem _))
        · exact hQ _ (List.getElem_mem _)
      · split
        · exact insertF_all _ _ _ (addF_all hQ hn) hk hp
        · exact hQ
  · exact hQ
theorem takeE_wf {T : TreeD} (hw : WF T) (n : Int) : WF (takeE T n).1 ∧ (takeE T n).1.nodes.length = T.nodes.length ∧ (takeE T n).1.most = T.most := by
  unfold takeE
  split
  · rename_i hi
    have hb := isF_lt hi
    obtain ⟨i, rfl⟩ := Int.eq_ofNat_of_zero_le (by omega : 0 ≤ n)
    exact ⟨takeF_wf hw (by omega) (by omega), takeF_len _ _, takeF_most _ _⟩
  · exact ⟨hw, rfl, rfl⟩
theorem mkF_wf {T : TreeD} (hw : WF T) (d : ND) (hp : d.parent = -1) (hk : d.kids = []) : WF (mkF T d).1 ∧ (mkF T d).1.most = T.most := by
  unfold mkF
  split
  · exact ⟨addF_wf hw d hp hk, rfl⟩
  · exact ⟨hw, rfl⟩
theorem mkF_len {T : TreeD} (d : ND) (hl : T.nodes.length ≤ 1000000) (hm : T.most ≤ 5000) : (mkF T d).1.nodes.length ≤ 1000000 := by
  unfold mkF
  split
  · rename_i h
    simp only [addF, List.length_append, List.length_singleton]
    omega
  · exact hl
theorem mkF_all {P : ND → Prop} {T : TreeD} {d : ND} (h : ∀ d ∈ T.nodes, P d) (hd : P d) : ∀ x ∈ (mkF T d).1.nodes, P x := by
  unfold mkF
  split
  · exact addF_all h hd
  · exact h
theorem textE_len {T : TreeD} (a b : Int) (s : ByteArray) (hl : T.nodes.length ≤ 1000000) (hm : T.most ≤ 5000) : (textE T a b s).1.nodes.length ≤ 1000000 := by
  unfold textE
  split
  · split
    · exact hl
    · unfold textAt
      split
      · rw [modN_len]; exact hl
      · split
        · rename_i h
          rw [insertF_len]
          simp only [addF, List.length_append, List.length_singleton]
          omega
        · exact hl
  · exact hl

section
variable {w0 w : World} {B tb g : Nat} {T : TreeD}

theorem Elem_ti (h : TI w0 B tb T g w) (sp : Int) (nm : ByteArray) (l : List Pair) (n : Nat) (a : Option Addr) (c : Nat) (hnl : n = l.length) (hc : a = none → c = 0) (hlen : l.length ≤ 1048576) (ha : At w a (pairsV l)) :
    Calls Try.prog 26 #[.pointer (some ⟨tb, 0, none⟩), .int .i64 sp, .string nm, .slice a n c] w fun e w' =>
      e = .returned (.tuple #[.int .i64 (mkF T (elemN sp nm l)).2.1, .int .i64 (mkF T (elemN sp nm l)).2.2]) ∧ Keeps (Two tb g) w w' ∧ ∃ g', TI w0 B tb (mkF T (elemN sp nm l)).1 g' w' := by
  refine (Elem_any T tb g w sp nm l n a c hnl hc hlen (by have := h.len; omega) h.tree ha).mono ?_
  rintro e w' ⟨g', hK, hg, he, hT⟩
  have hw := mkF_wf h.wf (elemN sp nm l) rfl rfl
  exact ⟨he, hK, g', h.step hK hT hg hw.1 (mkF_len _ h.len h.most) hw.2 (mkF_all h.att hlen) (mkF_all h.txt (Nat.zero_le _))⟩
theorem Like_ti (h : TI w0 B tb T g w) (n : Int) :
    Calls Try.prog 50 #[.pointer (some ⟨tb, 0, none⟩), .int .i64 n] w fun e w' =>
      e = .returned (.tuple #[.int .i64 (likeF T n).2.1, .int .i64 (likeF T n).2.2]) ∧ Keeps (Two tb g) w w' ∧ ∃ g', TI w0 B tb (likeF T n).1 g' w' := by
  refine (Like_any T tb g w n (by have := h.len; omega) h.atti h.tree).mono ?_
  rintro e w' ⟨g', hK, hg, he, hT⟩
  refine ⟨he, hK, g', ?_⟩
  unfold likeF at hT ⊢
  split
  · rename_i hel
    rw [if_pos hel] at hT
    have hw := mkF_wf h.wf (elemN (spaceQ T n) (nameQ T n) (attrsQ T n)) rfl rfl
    exact h.step hK hT hg hw.1 (mkF_len _ h.len h.most) hw.2 (mkF_all h.att (attrsQ_short h.atti n)) (mkF_all h.txt (Nat.zero_le _))
  · rename_i hel
    rw [if_neg hel] at hT
    exact h.step hK hT hg h.wf h.len rfl h.att h.txt
theorem Put_ti (h : TI w0 B tb T g w) (a b n : Int) :
    Calls Try.prog 46 #[.pointer (some ⟨tb, 0, none⟩), .int .i64 a, .int .i64 b, .int .i64 n] w fun e w' =>
      e = .returned (.int .i64 (putE T a b n).2) ∧ Keeps (Two tb g) w w' ∧ TI w0 B tb (putE T a b n).1 g w' := by
  refine (Put_any T tb g w a b n h.wf (by have := h.len; omega) h.tree).mono ?_
  rintro e w' ⟨he, hT, hK⟩
  have hw := putE_wf h.wf a b n
  exact ⟨he, hK, h.step hK hT (.inl rfl) hw.1 (by rw [hw.2.1]; exact h.len) hw.2.2 (putE_all _ _ _ h.att (fun _ _ h => h) fun _ _ h => h) (putE_all _ _ _ h.txt (fun _ _ h => h) fun _ _ h => h)⟩
theorem Take_ti (h : TI w0 B tb T g w) (n : Int) :
    Calls Try.prog 18 #[.pointer (some ⟨tb, 0, none⟩), .int .i64 n] w fun e w' =>
      e = .returned (.int .i64 (takeE T n).2) ∧ Keeps (Two tb g) w w' ∧ TI w0 B tb (takeE T n).1 g w' := by
  refine (Take_any T tb g w n h.wf (by have := h.len; omega) h.tree).mono ?_
  rintro e w' ⟨he, hT, hK⟩
  have hw := takeE_wf h.wf n
  exact ⟨he, hK, h.step hK hT (.inl rfl) hw.1 (by rw [hw.2.1]; exact h.len) hw.2.2 (takeE_all _ h.att (fun _ _ h => h) fun _ _ h => h) (takeE_all _ h.txt (fun _ _ h => h) fun _ _ h => h)⟩
theorem Text_ti (h : TI w0 B tb T g w) (a b : Int) (s : ByteArray) {B' : Nat} (hB : B + s.size ≤ B') (hB' : B' ≤ 9223372036854775807) :
    Calls Try.prog 47 #[.pointer (some ⟨tb, 0, none⟩), .int .i64 a, .int .i64 b, .string s] w fun e w' =>
      e = .returned (.int .i64 (textE T a b s).2) ∧ Keeps (Two tb g) w w' ∧ ∃ g', TI w0 B' tb (textE T a b s).1 g' w' := by
  refine (Text_any T tb g w a b s h.wf (by have := h.len; omega) (fun i hi => by have := h.txt _ (List.getElem_mem hi); omega) h.tree).mono ?_
  rintro e w' ⟨he, g', hT, hK, hg⟩
  have hw := textE_wf h.wf a b s
  refine ⟨he, hK, g', h.step hK hT hg hw.1 (textE_len _ _ _ h.len h.most) hw.2 (textE_all (P := fun d => d.attrs.length ≤ 1048576) _ _ _ h.att (fun _ h => h) (fun _ h => h) (Nat.zero_le _) (fun _ _ h => h) fun _ _ h => h)
    (textE_all (P := fun d => d.text.size ≤ B) _ _ _ h.txt (fun d hd => by omega) (fun d hd => ?_) ?_ (fun _ _ h => h) fun _ _ h => h)⟩
  · show (d.text ++ s).size ≤ B'
    rw [ByteArray.size_append]
    omega
  · show s.size ≤ B'
    omega
end
end Go.Proofs.Ytidbihdnginmcaa
