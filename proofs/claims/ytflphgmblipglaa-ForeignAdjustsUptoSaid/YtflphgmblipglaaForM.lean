/-
  Contract: colanderref16.Attrs: what it computes; its result is new memory; the world behind has new blocks alone.
-/
import Derived.Test.YtflphgmblipglaaForL
namespace Go.Proofs.Ytflphgmblipglaa
open Go.RowKit Mem

/-- the cells of a new block of two -/
theorem news_two {w : World} {g : Nat} (hg : g = w.heap.size) (x y : Value) (e : TypeId) : ∀ j u, [x, y][j]? = some u → (w.alloc (.cells #[x, y] e)).cell? ((⟨g, 0, none⟩ : Addr).add j) = some u := by
  subst hg
  exact cell_two_new w x y e
theorem two_one (p : Pair) : ∀ u ∈ [Value.string p.1, Value.string p.2], u.oneCell' = true := by
  intro u h
  simp only [List.mem_cons, List.not_mem_nil, or_false] at h
  rcases h with rfl | rfl <;> rfl
theorem attrsF_take (space : Int) (l : List Pair) (k : Nat) (h : k < l.length) : pairsV ((attrsF space l).take k) ++ [.string (large (wordsOf space) l[k].1), .string l[k].2] = pairsV ((attrsF space l).take (k + 1)) := by
  have hk : k < (attrsF space l).length := by simpa [attrsF] using h
  rw [List.take_succ_eq_append_getElem hk, pairsV_append]
  simp [attrsF, adjust, pairsV]
theorem large_nil (n : ByteArray) : large [] n = n := rfl
/-- an owned row while a new block's cell is written -/
theorem own_set {w : World} {base : Nat} {e : TypeId} {size : Nat} {v : Value} {n : Nat} {xs : List Value} (h : w.ownsRow base e size v n xs) {g j : Nat} (u : Value) (hg : ∀ b, v.ownBlock = some b → b ≠ g) : (w.setCell ⟨g, j, none⟩ u).ownsRow base e size v n xs :=
  own_kept h fun b hb => heap_setCell_other _ _ _ _ (hg b hb)

theorem cell_mid {X : Array Value} {e : TypeId} {j : Nat} {v : Value} {o : Obj} (w : World) (h : X[j]? = some v) : ((w.alloc (.cells X e)).alloc o).cell? ⟨w.heap.size, j, none⟩ = some v := by
  rw [World.cell?_alloc_past _ _ _ (by simp), World.cell?_alloc_new]; exact h
theorem froz_mid {w wx : World} {X : Array Value} {e : TypeId} {o : Obj} {j : Nat} (hx : Below ((w.alloc (.cells X e)).alloc o).heap.size ((w.alloc (.cells X e)).alloc o) wx) : wx.frozen? ⟨w.heap.size, j, none⟩ = false := by
  rw [hx.frozen (p := ⟨w.heap.size, j, none⟩) (by simp; omega), World.frozen?_alloc_past _ _ _ (by simp), World.frozen?_alloc_new]

set_option maxRecDepth 100000 in
set_option maxHeartbeats 2000000 in
theorem refAttrs_svg (l : List Pair) (a : Option Addr) (c : Nat) (w : World) (hl : l.length ≤ 2097152) (ha : At w a (pairsV l)) :
    Calls Try.prog 21 #[.int .i64 1, .slice a l.length c] w fun e w' => ∃ v, e = .returned v ∧ w'.ownsRow w.heap.size 31 2 v l.length (pairsV (attrsF 1 l)) ∧ Below w.heap.size w w' := by
  obtain ⟨i0, hi, hz0, hz1, hz2⟩ := info_parts info_attr
  have HA := Lib.hid ha
  clear ha
  go_enter Try.func21, Try.ntmps21
  go_wp2_with fail
  go_loopw [5, 6] (fun v i wr => ∃ k : Nat, k ≤ l.length ∧ i = .int .i64 k ∧ Below w.heap.size w wr ∧ wr.ownsRow w.heap.size 31 2 v k (pairsV ((attrsF 1 l).take k))) (fun _ i _ => l.length - (intOf i).toNat)
  case atStart => exact ⟨0, Nat.zero_le _, rfl, Below.refl _ _, World.ownsRow_nil _ _ _ _⟩
  case round =>
    obtain ⟨k, hk, rfl, hb, ho⟩ := hrel
    have HB := Lib.hid hb
    have HO := Lib.hid ho
    by_cases hlt : k < l.length
    · obtain ⟨b, o, rfl, hlb, h1, h2⟩ := pair_cells (HA.out.below hb) hlt
      clear hb ho
      have b1 : k + 1 ≤ maxLen := by unfold maxLen; omega
      have b2 : (k + 1) * 32 ≤ 140737488355328 := by omega
      go_wp2_with (first | (at_builtin; refine wpList_append_own _ rfl _ _ 22 rfl w.heap.size 31 i0 _ 2 32 Try.underlying22 hi hz0 hz1 hz2 rfl (by decide) _ k _ rfl HQ.out _ 1 1 [.string (large svgAttrs l[k].1), .string l[k].2] rfl rfl HN.out (two_one (large svgAttrs l[k].1, l[k].2)) b1 b2 HZ.out ?_; intro v' w2 hown2 hgr2 _; have HO2 := Lib.hid hown2; have HG2 := Lib.hid hgr2; clear hown2 hgr2) | (go_at_call 65; refine (large_any _ svgAttrs _ _ _ (by decide) (by decide) (at_alloc (by simp) rfl)).mono ?_; rintro e wx ⟨rfl, hbx⟩; have hz0 := hbx.size; have hzx : wr.heap.size + 1 < wx.heap.size := (by simp at hz0; omega); have p0 := cell_later hbx (cell_mid (X := #[.string l[k].1, .string l[k].2]) (j := 0) wr rfl); have p1 := cell_later hbx (cell_mid (X := #[.string l[k].1, .string l[k].2]) (j := 1) wr rfl); have p2 := froz_mid (X := #[.string l[k].1, .string l[k].2]) (j := 0) hbx; have HQ := Lib.hid ((own_set (g := wr.heap.size) (j := 0) (own_below ((HO.out.alloc _).alloc _) hbx) (.string (large svgAttrs l[k].1)) (fun b hb => Nat.ne_of_lt (HO.out.lt b hb).2)).alloc (.cells #[.string (large svgAttrs l[k].1), .string l[k].2] 31)); have HN := Lib.hid (news_two (w := wx.setCell ⟨wr.heap.size, 0, none⟩ (.string (large svgAttrs l[k].1))) (g := wx.heap.size) (by simp) (.string (large svgAttrs l[k].1)) (.string l[k].2) 31); have HX := Lib.hid (belowCall ((HB.out.alloc HB.out.size _).alloc (Nat.le_trans HB.out.size (by simp)) _) hbx); have HZ : Hid (w.heap.size ≤ ((wx.setCell ⟨wr.heap.size, 0, none⟩ (.string (large svgAttrs l[k].1))).alloc (.cells #[.string (large svgAttrs l[k].1), .string l[k].2] 31)).heap.size) := (by show _ ≤ _; have := HX.out.size; simp; omega); clear hbx hz0))
      go_roundw
      case rel =>
        refine ⟨k + 1, by omega, by go_num, ((HX.out.setCell (by exact HB.out.size) _).alloc (Nat.le_trans HX.out.size (by simp)) _).grown HG2.out HZ.out (fun b h => (HO.out.lt b h).1), ?_⟩
        have h := HO2.out
        rw [show large svgAttrs = large (wordsOf 1) from rfl, attrsF_take 1 l k hlt] at h
        exact h
      case measure => simp [intOf]; omega
    · obtain rfl : k = l.length := by omega
      clear hb ho
      go_wp2_with fail
      go_ret
      exact ⟨_, rfl, by have := HO.out; rw [List.take_of_length_le (by simp [attrsF])] at this; exact this, HB.out⟩

set_option maxRecDepth 100000 in
set_option maxHeartbeats 2000000 in
theorem refAttrs_math (l : List Pair) (a : Option Addr) (c : Nat) (w : World) (hl : l.length ≤ 2097152) (ha : At w a (pairsV l)) :
    Calls Try.prog 21 #[.int .i64 2, .slice a l.length c] w fun e w' => ∃ v, e = .returned v ∧ w'.ownsRow w.heap.size 31 2 v l.length (pairsV (attrsF 2 l)) ∧ Below w.heap.size w w' := by
  obtain ⟨i0, hi, hz0, hz1, hz2⟩ := info_parts info_attr
  have HA := Lib.hid ha
  clear ha
  go_enter Try.func21, Try.ntmps21
  go_wp2_with fail
  go_loopw [5, 6] (fun v i wr => ∃ k : Nat, k ≤ l.length ∧ i = .int .i64 k ∧ Below w.heap.size w wr ∧ wr.ownsRow w.heap.size 31 2 v k (pairsV ((attrsF 2 l).take k))) (fun _ i _ => l.length - (intOf i).toNat)
  case atStart => exact ⟨0, Nat.zero_le _, rfl, Below.refl _ _, World.ownsRow_nil _ _ _ _⟩
  case round =>
    obtain ⟨k, hk, rfl, hb, ho⟩ := hrel
    have HB := Lib.hid hb
    have HO := Lib.hid ho
    by_cases hlt : k < l.length
    · obtain ⟨b, o, rfl, hlb, h1, h2⟩ := pair_cells (HA.out.below hb) hlt
      clear hb ho
      have b1 : k + 1 ≤ maxLen := by unfold maxLen; omega
      have b2 : (k + 1) * 32 ≤ 140737488355328 := by omega
      go_wp2_with (first | (at_builtin; refine wpList_append_own _ rfl _ _ 22 rfl w.heap.size 31 i0 _ 2 32 Try.underlying22 hi hz0 hz1 hz2 rfl (by decide) _ k _ rfl HQ.out _ 1 1 [.string (large mathAttrs l[k].1), .string l[k].2] rfl rfl HN.out (two_one (large mathAttrs l[k].1, l[k].2)) b1 b2 HZ.out ?_; intro v' w2 hown2 hgr2 _; have HO2 := Lib.hid hown2; have HG2 := Lib.hid hgr2; clear hown2 hgr2) | (go_at_call 65; refine (large_any _ mathAttrs _ _ _ (by decide) (by decide) (at_alloc (by simp) rfl)).mono ?_; rintro e wx ⟨rfl, hbx⟩; have hz0 := hbx.size; have hzx : wr.heap.size + 1 < wx.heap.size := (by simp at hz0; omega); have p0 := cell_later hbx (cell_mid (X := #[.string l[k].1, .string l[k].2]) (j := 0) wr rfl); have p1 := cell_later hbx (cell_mid (X := #[.string l[k].1, .string l[k].2]) (j := 1) wr rfl); have p2 := froz_mid (X := #[.string l[k].1, .string l[k].2]) (j := 0) hbx; have HQ := Lib.hid ((own_set (g := wr.heap.size) (j := 0) (own_below ((HO.out.alloc _).alloc _) hbx) (.string (large mathAttrs l[k].1)) (fun b hb => Nat.ne_of_lt (HO.out.lt b hb).2)).alloc (.cells #[.string (large mathAttrs l[k].1), .string l[k].2] 31)); have HN := Lib.hid (news_two (w := wx.setCell ⟨wr.heap.size, 0, none⟩ (.string (large mathAttrs l[k].1))) (g := wx.heap.size) (by simp) (.string (large mathAttrs l[k].1)) (.string l[k].2) 31); have HX := Lib.hid (belowCall ((HB.out.alloc HB.out.size _).alloc (Nat.le_trans HB.out.size (by simp)) _) hbx); have HZ : Hid (w.heap.size ≤ ((wx.setCell ⟨wr.heap.size, 0, none⟩ (.string (large mathAttrs l[k].1))).alloc (.cells #[.string (large mathAttrs l[k].1), .string l[k].2] 31)).heap.size) := (by show _ ≤ _; have := HX.out.size; simp; omega); clear hbx hz0))
      go_roundw
      case rel =>
        refine ⟨k + 1, by omega, by go_num, ((HX.out.setCell (by exact HB.out.size) _).alloc (Nat.le_trans HX.out.size (by simp)) _).grown HG2.out HZ.out (fun b h => (HO.out.lt b h).1), ?_⟩
        have h := HO2.out
        rw [show large mathAttrs = large (wordsOf 2) from rfl, attrsF_take 2 l k hlt] at h
        exact h
      case measure => simp [intOf]; omega
    · obtain rfl : k = l.length := by omega
      clear hb ho
      go_wp2_with fail
      go_ret
      exact ⟨_, rfl, by have := HO.out; rw [List.take_of_length_le (by simp [attrsF])] at this; exact this, HB.out⟩

set_option maxRecDepth 100000 in
set_option maxHeartbeats 2000000 in
theorem refAttrs_other (space : Int) (h1 : (space == 1) = false) (h2' : (space == 2) = false) (l : List Pair) (a : Option Addr) (c : Nat) (w : World) (hl : l.length ≤ 2097152) (ha : At w a (pairsV l)) :
    Calls Try.prog 21 #[.int .i64 space, .slice a l.length c] w fun e w' => ∃ v, e = .returned v ∧ w'.ownsRow w.heap.size 31 2 v l.length (pairsV (attrsF space l)) ∧ Below w.heap.size w w' := by
  have HW : Hid (wordsOf space = []) := by show _ = _; rw [wordsOf, if_neg (by simpa using h1), if_neg (by simpa using h2')]
  obtain ⟨i0, hi, hz0, hz1, hz2⟩ := info_parts info_attr
  have HA := Lib.hid ha
  clear ha
  go_enter Try.func21, Try.ntmps21
  go_wp2_with fail
  go_loopw [5, 6] (fun v i wr => ∃ k : Nat, k ≤ l.length ∧ i = .int .i64 k ∧ Below w.heap.size w wr ∧ wr.ownsRow w.heap.size 31 2 v k (pairsV ((attrsF space l).take k))) (fun _ i _ => l.length - (intOf i).toNat)
  case atStart => exact ⟨0, Nat.zero_le _, rfl, Below.refl _ _, World.ownsRow_nil _ _ _ _⟩
  case round =>
    obtain ⟨k, hk, rfl, hb, ho⟩ := hrel
    have HB := Lib.hid hb
    have HO := Lib.hid ho
    by_cases hlt : k < l.length
    · obtain ⟨b, o, rfl, hlb, c1, c2⟩ := pair_cells (HA.out.below hb) hlt
      clear hb ho
      have b1 : k + 1 ≤ maxLen := by unfold maxLen; omega
      have b2 : (k + 1) * 32 ≤ 140737488355328 := by omega
      have HQ : Hid ((((wr.alloc (.cells #[.string l[k].1, .string l[k].2] 31)).alloc (.cells #[.string l[k].1, .string l[k].2] 31))).ownsRow w.heap.size 31 2 u5 k (pairsV ((attrsF space l).take k))) := (HO.out.alloc _).alloc _
      have HN := Lib.hid (news_two (w := wr.alloc (.cells #[.string l[k].1, .string l[k].2] 31)) (g := wr.heap.size + 1) (by simp) (.string l[k].1) (.string l[k].2) 31)
      have HZ : Hid (w.heap.size ≤ ((wr.alloc (.cells #[.string l[k].1, .string l[k].2] 31)).alloc (.cells #[.string l[k].1, .string l[k].2] 31)).heap.size) := (by show _ ≤ _; have := HB.out.size; simp; omega)
      go_wp2_with (first | (at_builtin; refine wpList_append_own _ rfl _ _ 22 rfl w.heap.size 31 i0 _ 2 32 Try.underlying22 hi hz0 hz1 hz2 rfl (by decide) _ k _ rfl HQ.out _ 1 1 [.string l[k].1, .string l[k].2] rfl rfl HN.out (two_one l[k]) b1 b2 HZ.out ?_; intro v' w2 hown2 hgr2 _; have HO2 := Lib.hid hown2; have HG2 := Lib.hid hgr2; clear hown2 hgr2))
      go_roundw
      case rel =>
        refine ⟨k + 1, by omega, by go_num, ((HB.out.alloc HB.out.size _).alloc (Nat.le_trans HB.out.size (by simp)) _).grown HG2.out HZ.out (fun b h => (HO.out.lt b h).1), ?_⟩
        have h := HO2.out
        have h3 := attrsF_take space l k hlt
        rw [HW.out, large_nil] at h3
        rw [h3] at h
        exact h
      case measure => simp [intOf]; omega
    · obtain rfl : k = l.length := by omega
      clear hb ho
      go_wp2_with fail
      go_ret
      exact ⟨_, rfl, by have := HO.out; rw [List.take_of_length_le (by simp [attrsF])] at this; exact this, HB.out⟩

theorem refAttrs_any (space : Int) (l : List Pair) (a : Option Addr) (c : Nat) (w : World) (hl : l.length ≤ 2097152) (ha : At w a (pairsV l)) :
    Calls Try.prog 21 #[.int .i64 space, .slice a l.length c] w fun e w' => ∃ v, e = .returned v ∧ w'.ownsRow w.heap.size 31 2 v l.length (pairsV (attrsF space l)) ∧ Below w.heap.size w w' := by
  by_cases h1 : space = 1
  · subst h1; exact refAttrs_svg l a c w hl ha
  · by_cases h2 : space = 2
    · subst h2; exact refAttrs_math l a c w hl ha
    · exact refAttrs_other space (by simpa using h1) (by simpa using h2) l a c w hl ha
end Go.Proofs.Ytflphgmblipglaa
