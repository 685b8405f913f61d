/-
  Contracts: the document's list: Insert, Text. No conditions beyond those that each lemma types.
-/
import Derived.Test.YtclflmjpdglgiaaGreatDlE
namespace Go.Proofs.YtclflmjpdglgiaaGreat
open Go.RowKit Mem

section
variable {w0 w w1 w' : World} {B B' rb sb lb : Nat} {ex : Nat → Prop} {T T' : TreeD} {l l' ent ent' : List Int} {on on' : Bool}
theorem RSI.laid (h : RSI w0 B rb sb ex T l w) (hb : Below w.heap.size w w1) {v : Value} {n : Nat} (hn : n = l'.length) (ho : w1.ownsRow w.heap.size 3 1 v n (intsV l')) (hl : l'.length ≤ 1000000) :
    RSI w0 B rb sb ex T l' (w1.setCell ⟨sb, 1, none⟩ v) ∧ Keeps (Own w0 ex) w (w1.setCell ⟨sb, 1, none⟩ v) := by
  obtain ⟨gn, gk, gs, far, h1, h2, h3, h4⟩ := h
  have hlt := h2.lt sb (.inl rfl)
  have h2' := h2.kept (Keeps.ofBelow (F := fun _ => False) hb) (fun _ _ h => h)
  obtain ⟨q1, q2⟩ := h2'.lay hn ho hlt
  exact rsi_step h1 h3 hl ((Keeps.ofBelow hb).set (p := ⟨sb, 1, none⟩) (.inl (.inl rfl)) v) q1 fun k hk => .inr (q2 k hk)
theorem LD.laid (h : LD w0 B rb sb lb ex T l ent on w) (hb : Below w.heap.size w w1) {v : Value} {n : Nat} (hn : n = l'.length) (ho : w1.ownsRow w.heap.size 3 1 v n (intsV l')) (hl : l'.length ≤ 1000000) :
    LD w0 B rb sb lb ex T l' ent on (w1.setCell ⟨sb, 1, none⟩ v) ∧ Keeps (Own w0 ex) w (w1.setCell ⟨sb, 1, none⟩ v) := by
  obtain ⟨ge, h1, h2, h3, h4⟩ := h
  obtain ⟨q1, q2⟩ := h2.laid hb hn ho hl
  exact LD.si_step h1 h3 h4 q1 q2

theorem LD.apart (h : LD w0 B rb sb lb ex T l ent on w) : lb ≠ sb := by
  obtain ⟨ge, h1, ⟨gn, gk, gs, far, q1, q2, q3, q4⟩, h3, h4⟩ := h
  intro e
  exact (q3 sb (.inl rfl)).2.2 (.inr (.inl e.symm))
theorem keepSet {w : World} {lb sb i j : Nat} {v x : Value} (hne : lb ≠ sb) (h : w.cell? ⟨lb, i, none⟩ = some v) : (w.setCell ⟨sb, j, none⟩ x).cell? ⟨lb, i, none⟩ = some v := by
  rw [World.cell?_of_block (w := w) (heap_setCell_other _ _ _ _ hne)]
  exact h
set_option maxRecDepth 100000 in
set_option maxHeartbeats 8000000 in
theorem dInsert_ld (h : LD w0 B rb sb lb ex T l ent on w) (hl : l.length < 1000000) (sp : Int) (nm : ByteArray) (at' : List Pair) (n : Nat) (a : Option Addr) (c : Nat) (hnl : n = at'.length) (hc : a = none → c = 0) (hlen : at'.length ≤ 1048576) (ha : At w a (pairsV at')) :
    Calls Tryz.prog 56 #[.pointer (some ⟨lb, 0, none⟩), .int .i64 sp, .string nm, .slice a n c] w fun e w' =>
      e = .returned (.tuple #[.int .i64 (insertL T l on sp nm at').2.2.1, .int .i64 (insertL T l on sp nm at').2.2.2]) ∧ LD w0 B rb sb lb ex (insertL T l on sp nm at').1 (insertL T l on sp nm at').2.1 ent on w' ∧ Keeps (Own w0 ex) w w' := by
  obtain ⟨sa, sc, c0, c1, -⟩ := h.cells
  have HE := Lib.hid (dElem_ld h sp nm at' n a c hnl hc hlen ha)
  have HI : Hid (insertL T l on sp nm at' = if (mkF T (elemN sp nm at')).2.2 = 0 then ((putE (mkF T (elemN sp nm at')).1 (placeQ (mkF T (elemN sp nm at')).1 l on 0).1 (placeQ (mkF T (elemN sp nm at')).1 l on 0).2 (mkF T (elemN sp nm at')).2.1).1, l ++ [(mkF T (elemN sp nm at')).2.1], (mkF T (elemN sp nm at')).2.1, 0) else ((mkF T (elemN sp nm at')).1, l, 0, (mkF T (elemN sp nm at')).2.2)) := Lib.hid rfl
  generalize mkF T (elemN sp nm at') = m at *
  obtain ⟨U, x, er⟩ := m
  simp only at HE HI
  clear h hc ha hnl
  by_cases he : er = 0
  · rw [if_pos he] at HI
    subst he
    go_enter Tryz.func56, Tryz.ntmps56
    go_wp2_with (go_at_call 93; go_must (refine HE.out.mono ?_; rintro e w1 ⟨rfl, h1, k1⟩; have HP := Lib.hid (dPlace_ld h1 0); have H1 := Lib.hid h1; have K1 := Lib.hid k1; clear h1 k1))
    refine HP.out.mono ?_
    rintro e w2 ⟨rfl, hb2⟩
    have h2 := H1.out.world hb2
    obtain ⟨sa2, sc2, d0, d1, -⟩ := h2.cells
    have HB2 := Lib.hid hb2
    generalize placeQ U l on 0 = pl at *
    obtain ⟨p, b⟩ := pl
    have HPut := Lib.hid (dPut_ld h2 p b x)
    clear h2 hb2 c0 c1
    go_wp2_with (go_at_call 94; go_must (refine HPut.out.mono ?_; rintro e w3 ⟨rfl, h3, k3⟩; obtain ⟨sa3, sc3, e0, v1, -⟩ := h3.cells; have K3 := Lib.hid ((K1.out.trans (Keeps.ofBelow HB2.out)).trans k3); have H3 := Lib.hid h3; clear h3 k3))
    obtain ⟨a, c, z0, z1, hat, hn0, zf, hqb, -, -⟩ := H3.out.stk
    have HA := Lib.hid hat
    have HN0 := Lib.hid hn0
    obtain ⟨n, hn⟩ : ∃ n, n = x := ⟨_, rfl⟩
    subst hn
    clear hat hn0 d0 d1 z0 e0 H1 K1 HB2 HP HPut HE
    obtain ⟨i0, hi0, hz0, hz1, hz2⟩ := info_parts stk_int
    have K1 : Hid (Keeps Non w3 (w3.drew.alloc (.cells #[] 3))) := Lib.hid ((Keeps.refl Non w3).drew.alloc _)
    have K4 : Hid (Keeps Non w3 (w3.drew.alloc (.cells #[.int .i64 n] 3))) := Lib.hid ((Keeps.refl Non w3).drew.alloc _)
    have K2 : Hid (Keeps Non w3 ((w3.drew.alloc (.cells #[] 3)).alloc (.cells #[.int .i64 n] 3))) := Lib.hid (((Keeps.refl Non w3).drew.alloc _).alloc _)
    have K3' : Hid (Keeps Non w3 ((w3.drew.alloc (.cells #[.int .i64 n] 3)).alloc (.cells #[] 3))) := Lib.hid (((Keeps.refl Non w3).drew.alloc _).alloc _)
    have O1 : Hid ((w3.drew.alloc (.cells #[] 3)).ownsRow w3.heap.size 3 1 (.slice (some ⟨w3.heap.size, 0, none⟩) 0 0) 0 []) := Lib.hid (World.ownsRow_lit w3.drew #[] 0 (Nat.le_refl _) (Nat.zero_le _) rfl)
    have O2 := Lib.hid (O1.out.alloc (.cells #[.int .i64 n] 3))
    have O3 : Hid (((w3.drew.alloc (.cells #[.int .i64 n] 3)).alloc (.cells #[] 3)).ownsRow w3.heap.size 3 1 (.slice (some ⟨w3.heap.size + 1, 0, none⟩) 0 0) 0 []) := Lib.hid (by
      have := World.ownsRow_lit (base := w3.heap.size) (e := 3) (size := 1) (w3.drew.alloc (.cells #[.int .i64 n] 3)) #[] 0 (by show _ ≤ _; simp) (Nat.zero_le _) rfl
      simpa using this)
    have N2 : Hid (At ((w3.drew.alloc (.cells #[] 3)).alloc (.cells #[.int .i64 n] 3)) (some ⟨w3.heap.size + 1, 0, none⟩) [.int .i64 n]) := Lib.hid (by simpa using at_one (w3.drew.alloc (.cells #[] 3)) n 3)
    have N3 : Hid (At ((w3.drew.alloc (.cells #[.int .i64 n] 3)).alloc (.cells #[] 3)) (some ⟨w3.heap.size, 0, none⟩) [.int .i64 n]) := Lib.hid ((at_one w3.drew n 3).below ((Below.refl _ _).alloc (Nat.le_refl _) _))
    have b0 : 0 + l.length ≤ maxLen := by unfold maxLen; omega
    have b1 : (0 + l.length) * 8 ≤ 140737488355328 := by omega
    have b2 : l.length + 1 ≤ maxLen := by unfold maxLen; omega
    have b3 : (l.length + 1) * 8 ≤ 140737488355328 := by omega
    have L1 := Lib.hid (show (intsV l).length = l.length * 1 by rw [intsV_length, Nat.mul_one])
    have B1 : Hid (∀ k, (Value.slice (some ⟨w3.heap.size, 0, none⟩) 0 0).ownBlock = some k → w3.heap.size ≤ k) := Lib.hid (fun k e => by simp only [Value.ownBlock, Option.some.injEq] at e; omega)
    have B3 : Hid (∀ k, (Value.slice (some ⟨w3.heap.size + 1, 0, none⟩) 0 0).ownBlock = some k → w3.heap.size ≤ k) := Lib.hid (fun k e => by simp only [Value.ownBlock, Option.some.injEq] at e; omega)
    have E2' : Hid (some (w3.heap.size + 1) ≠ (Value.slice (some ⟨w3.heap.size, 0, none⟩) 0 0).ownBlock) := Lib.hid (fun e => by simp only [Value.ownBlock, Option.some.injEq] at e; omega)
    have E3' : Hid (some w3.heap.size ≠ (Value.slice (some ⟨w3.heap.size + 1, 0, none⟩) 0 0).ownBlock) := Lib.hid (fun e => by simp only [Value.ownBlock, Option.some.injEq] at e; omega)
    have hbE := (Below.refl w3.heap.size w3).alloc (Nat.le_refl _) (.cells #[] 3)
    have hbX := (Below.refl w3.heap.size w3).alloc (Nat.le_refl _) (.cells #[.int .i64 n] 3)
    have hbEX := hbE.alloc (by simp) (.cells #[.int .i64 n] 3)
    have hbXE := hbX.alloc (by simp) (.cells #[] 3)
    have vE := cell_later hbE v1
    have vX := cell_later hbX v1
    have vEX := cell_later hbEX v1
    have vXE := cell_later hbXE v1
    have zE := cell_later hbE z1
    have zX := cell_later hbX z1
    have zEX := cell_later hbEX z1
    have zXE := cell_later hbXE z1
    clear hbE hbX hbEX hbXE
    have HII := HI
    clear HI
    go_region_law (first
      | (refine step_append_slice (by rfl) (.tmp 45) (.tmp 52) _ (by rfl) w3.heap.size 3 i0 _ 1 8 Tryz.underlying30 hi0 hz0 hz1 hz2 rfl (by decide) _ 0 [] (by rfl) (by first | exact O1.out | exact O2.out | exact O3.out) a l.length c (intsV l) (by rfl) L1.out HN0.out (by first | exact non_at K1.out HA.out | exact non_at K2.out HA.out | exact non_at K3'.out HA.out) (intsV_one _) b0 b1 (by first | exact K1.out.size | exact K2.out.size | exact K3'.out.size) ?_
         intro v5 w5 hown5 hgr5
         simp only [Nat.zero_add, List.nil_append] at hown5
         have K5 : Hid (Keeps Non w3 w5) := Lib.hid (by first | exact keeps_grown K1.out hgr5 B1.out | exact keeps_grown K2.out hgr5 B1.out | exact keeps_grown K3'.out hgr5 B3.out)
         first | have N5 := Lib.hid (at_grown N2.out hgr5 E2'.out) | have N5 := Lib.hid (at_grown N3.out hgr5 E3'.out) | skip
         have v5' := non_cell K5.out v1
         have v5X := cell_later ((Below.refl w5.heap.size w5).alloc (Nat.le_refl _) (.cells #[.int .i64 n] 3)) v5'
         obtain ⟨a5, c5, rfl, _, _, _, _⟩ := own_at hown5
         have O5 := Lib.hid hown5
         clear hown5 hgr5)
      | (refine step_append_slice (by rfl) (.tmp 53) (.tmp 55) _ (by rfl) w3.heap.size 3 i0 _ 1 8 Tryz.underlying30 hi0 hz0 hz1 hz2 rfl (by decide) _ l.length (intsV l) (by rfl) (by first | exact O5.out | exact O5.out.alloc _) (some ⟨_, 0, none⟩) 1 1 [.int .i64 n] (by rfl) (by rfl) (fun e => by cases e) (by first | exact N5.out | exact at_one _ _ _) (intsV_one [_]) b2 b3 (by first | exact K5.out.size | exact (K5.out.alloc _).size) ?_
         intro v6 w6 hown6 hgr6
         have K6 : Hid (Keeps Non w3 w6) := Lib.hid (by first | exact keeps_grown K5.out hgr6 (own_base O5.out) | exact keeps_grown (K5.out.alloc _) hgr6 (own_base O5.out))
         have z6 := non_cell K6.out z1
         have v6' := non_cell K6.out v1
         have f6 := (non_frozen (p := ⟨sb, 1, none⟩) K6.out hqb).trans zf
         obtain ⟨a6, c6, rfl, _, _, _, _⟩ := own_at hown6
         have O6 := Lib.hid hown6
         clear hown6 hgr6))
    all_goals
      have hP := H3.out.laid (non_below K6.out) (v := .slice a6 (l.length + 1) c6) (n := l.length + 1) (l' := l ++ [n]) (by simp) (by rw [intsV_append]; exact O6.out) (by simp; omega)
      have HP1 := Lib.hid hP.1
      have HP2 := Lib.hid hP.2
      clear hP
      go_wp2_with fail
      go_ret2
      rw [HII.out]
      exact ⟨rfl, HP1.out, K3.out.trans HP2.out⟩
  · rw [if_neg he] at HI
    have he' : (er == 0) = false := by simpa using he
    clear he
    go_enter Tryz.func56, Tryz.ntmps56
    go_wp2_with (go_at_call 93; go_must (refine HE.out.mono ?_; rintro e w1 ⟨rfl, h1, k1⟩; have H1 := Lib.hid h1; have K1 := Lib.hid k1; clear h1 k1))
    go_ret2
    rw [HI.out]
    exact ⟨rfl, H1.out, K1.out⟩

set_option maxRecDepth 100000 in
theorem dText_ld (h : LD w0 B rb sb lb ex T l ent on w) (s : ByteArray) {B' : Nat} (hB : B + s.size ≤ B') (hB' : B' ≤ 9223372036854775807) :
    Calls Tryz.prog 24 #[.pointer (some ⟨lb, 0, none⟩), .string s] w fun e w' =>
      e = .returned (.int .i64 (textE T (placeQ T l on 0).1 (placeQ T l on 0).2 s).2) ∧ LD w0 B' rb sb lb ex (textE T (placeQ T l on 0).1 (placeQ T l on 0).2 s).1 l ent on w' ∧ Keeps (Own w0 ex) w w' := by
  have HP := Lib.hid (dPlace_ld h 0)
  have HL := Lib.hid h
  clear h
  obtain ⟨p, b, hpl⟩ : ∃ p b, placeQ T l on 0 = (p, b) := ⟨_, _, rfl⟩
  rw [hpl] at HP ⊢
  clear hpl
  go_enter Tryz.func24, Tryz.ntmps24
  go_wp2_with fail
  refine HP.out.mono ?_
  rintro e w2 ⟨rfl, hb2⟩
  have h2 := HL.out.world hb2
  obtain ⟨sa2, sc2, d0, d1, _⟩ := h2.cells
  have HB2 := Lib.hid hb2
  have HT := Lib.hid (dTText_ld h2 p b s hB hB')
  clear h2 hb2
  go_wp2_with (go_at_call 59; go_must (refine HT.out.mono ?_; rintro e w3 ⟨rfl, h3, k3⟩; have H3 := Lib.hid h3; have K3 := Lib.hid k3; clear h3 k3))
  go_ret
  exact ⟨rfl, H3.out, (Keeps.ofBelow HB2.out).trans K3.out⟩
end
end Go.Proofs.YtclflmjpdglgiaaGreat
