/-
  Contracts: foreign.Attrs: what it computes; its result is new memory; the world behind has new blocks alone.
-/
import Derived.Test.YtflphgmblipglaaForB
import Derived.Test.YtflphgmblipglaaForH
import Derived.Test.YtflphgmblipglaaMemB
namespace Go.Proofs.Ytflphgmblipglaa
open Go.RowKit Mem

def svgAttrs : List ByteArray := [⟨#[97, 116, 116, 114, 105, 98, 117, 116, 101, 78, 97, 109, 101]⟩, ⟨#[103, 114, 97, 100, 105, 101, 110, 116, 84, 114, 97, 110, 115, 102, 111, 114, 109]⟩, ⟨#[103, 114, 97, 100, 105, 101, 110, 116, 85, 110, 105, 116, 115]⟩, ⟨#[112, 97, 116, 104, 76, 101, 110, 103, 116, 104]⟩, ⟨#[112, 97, 116, 116, 101, 114, 110, 85, 110, 105, 116, 115]⟩, ⟨#[112, 114, 101, 115, 101, 114, 118, 101, 65, 115, 112, 101, 99, 116, 82, 97, 116, 105, 111]⟩, ⟨#[114, 101, 102, 88]⟩, ⟨#[114, 101, 102, 89]⟩, ⟨#[115, 116, 100, 68, 101, 118, 105, 97, 116, 105, 111, 110]⟩, ⟨#[116, 101, 120, 116, 76, 101, 110, 103, 116, 104]⟩, ⟨#[118, 105, 101, 119, 66, 111, 120]⟩]
def mathAttrs : List ByteArray := [⟨#[100, 101, 102, 105, 110, 105, 116, 105, 111, 110, 85, 82, 76]⟩]
def wordsOf (space : Int) : List ByteArray := if space = 1 then svgAttrs else if space = 2 then mathAttrs else []
def adjust (words : List ByteArray) (p : Pair) : Pair := (large words p.1, p.2)
def attrsF (space : Int) (l : List Pair) : List Pair := l.map (adjust (wordsOf space))

theorem info_attr : (Try.prog.info? 31).map (fun i => (i.zero, i.size, i.bytes)) = some (some (.agg #[.string ⟨#[]⟩, .string ⟨#[]⟩]), 2, 32) := by kernel_rfl

theorem cell_next {X : Array Value} {e : TypeId} {j : Nat} {v : Value} (w : World) (h : X[j]? = some v) : (w.alloc (.cells X e)).drew.cell? ⟨w.heap.size, j, none⟩ = some v := by
  rw [World.cell?_drew, World.cell?_alloc_new]; exact h
theorem cell_old {w : World} {o : Obj} {b j : Nat} {v : Value} (hb : b < w.heap.size) (h : w.cell? ⟨b, j, none⟩ = some v) : (w.alloc o).drew.cell? ⟨b, j, none⟩ = some v := by
  rw [World.cell?_drew, World.cell?_alloc_past _ _ _ hb]; exact h
theorem froz_old {w wx : World} {o : Obj} {b j : Nat} (hx : Below (w.alloc o).drew.heap.size (w.alloc o).drew wx) (hb : b < w.heap.size) (h : w.frozen? ⟨b, j, none⟩ = false) : wx.frozen? ⟨b, j, none⟩ = false := by
  rw [hx.frozen (p := ⟨b, j, none⟩) (by simp; omega), World.frozen?_drew, World.frozen?_alloc_past _ _ _ hb]; exact h

/-- the first k adjusted, the rest blank -/
def part (words : List ByteArray) (l : List Pair) (k : Nat) : List Pair := (l.take k).map (adjust words) ++ blanks (l.length - k)
theorem part_zero (words : List ByteArray) (l : List Pair) : part words l 0 = blanks l.length := by simp [part]
theorem part_all (words : List ByteArray) (l : List Pair) : part words l l.length = l.map (adjust words) := by simp [part, blanks]
theorem part_length (words : List ByteArray) (l : List Pair) (k : Nat) (h : k ≤ l.length) : (part words l k).length = l.length := by simp [part, blanks]; omega
theorem part_succ (words : List ByteArray) (l : List Pair) (k : Nat) (h : k < l.length) : (part words l k).set k (adjust words l[k]) = part words l (k + 1) := by
  simp only [part, blanks]
  rw [List.set_append_right _ _ (by simp; omega)]
  simp only [List.length_map, List.length_take, Nat.min_eq_left (Nat.le_of_lt h), Nat.sub_self]
  rw [show l.length - k = (l.length - (k + 1)) + 1 from by omega, List.replicate_succ, List.set_cons_zero, List.take_succ_eq_append_getElem h, List.map_append]
  simp

theorem part_step (words : List ByteArray) (l : List Pair) (k : Nat) (h : k < l.length) : ((pairsV (part words l k)).set (k * 2) (.string (large words l[k].1))).set (k * 2 + 1) (.string l[k].2) = pairsV (part words l (k + 1)) := by
  have h2 := pairsV_set (part words l k) k (adjust words l[k])
  rw [part_succ words l k h] at h2
  exact h2

set_option maxRecDepth 100000 in
set_option maxHeartbeats 2000000 in
theorem attrs_svg (l : List Pair) (a : Option Addr) (c : Nat) (w : World) (hl : l.length ≤ 2097152) (ha : At w a (pairsV l)) :
    Calls Try.prog 22 #[.int .i64 1, .slice a l.length c] w fun e w' => ∃ v, e = .returned v ∧ w'.ownsRow w.heap.size 31 2 v l.length (pairsV (attrsF 1 l)) ∧ Below w.heap.size w w' := by
  obtain ⟨i0, hi, hz0, hz1, hz2⟩ := info_parts info_attr
  have HA := Lib.hid ha
  clear ha
  go_enter Try.func22, Try.ntmps22
  have hb2 : i0.bytes * l.length ≤ 281474976710656 := by rw [hz2]; omega
  have hb3 : l.length ≤ maxLen := by unfold maxLen; omega
  go_wp2_with (at_make; refine wpList_make_full _ rfl _ _ 22 rfl w.heap.size 31 i0 _ 2 Try.underlying22 hi hz0 hz1 .i64 .i64 (l.length : Int) (l.length : Int) l.length rfl rfl rfl rfl hb2 hb3 (by simp) ?_; intro w1 hown hgr; have HO := Lib.hid hown; have HG := Lib.hid hgr; clear hown hgr hi hz0 hz1 hz2 hb2 hb3)
  go_loopw [21] (fun i wr => ∃ k : Nat, k ≤ l.length ∧ i = .int .i64 k ∧ Below w.heap.size w wr ∧ Row wr w.heap.size (strsV svgAttrs) ∧ wr.ownsRow w.heap.size 31 2 (.slice (some ⟨w.heap.size + 1, 0, none⟩) l.length l.length) l.length (pairsV (part (svgAttrs) l k))) (fun i _ => l.length - (intOf i).toNat)
  case atStart =>
    refine ⟨0, Nat.zero_le _, rfl, ((Below.refl _ _).alloc (Nat.le_refl _) _).grown HG.out (by simp) (fun k h => by cases h), (Row.alloc w _ _).kept (HG.out.block _ (by simp) (by simp)), ?_⟩
    rw [part_zero, ← made_pairs]
    have h := HO.out
    simp only [World.size_alloc, Value.cells] at h
    exact h
  case round =>
    obtain ⟨k, hk, rfl, hb, hwd, ho⟩ := hrel
    clear HO HG
    have HB := Lib.hid hb
    have HW := Lib.hid hwd
    have HO := Lib.hid ho
    by_cases hlt : k < l.length
    · obtain ⟨b, o, rfl, hlb, h1, h2⟩ := pair_cells (HA.out.below hb) hlt
      have hn : (part (svgAttrs) l k).length = l.length := part_length _ l k hk
      have hkp : k < (part (svgAttrs) l k).length := by rw [hn]; exact hlt
      have g1 : wr.cell? ⟨w.heap.size + 1, k * 2, none⟩ = some (.string (part (svgAttrs) l k)[k].1) := (own_row ho).cell (pairsV_get0 _ k hkp)
      have g2 : wr.cell? ⟨w.heap.size + 1, k * 2 + 1, none⟩ = some (.string (part (svgAttrs) l k)[k].2) := (own_row ho).cell (pairsV_get1 _ k hkp)
      have f1 : wr.frozen? ⟨w.heap.size + 1, k * 2, none⟩ = false := ho.frozenAt _
      have f2 : wr.frozen? ⟨w.heap.size + 1, k * 2 + 1, none⟩ = false := ho.frozenAt _
      have hg := (own_row ho).lt
      have HN := Lib.hid hn
      clear hb hwd ho hn
      go_wp2_with fail
      go_region_with (go_at_call 66; refine (written_any _ (svgAttrs) _ _ _ (by decide) (by decide) ?_).mono ?_; (exact (HW.out.below (((Below.refl _ _).alloc (Nat.le_refl _) _).drew) HW.out.lt).at); rintro e wx ⟨rfl, hbx⟩; have p0 := cell_later hbx (cell_next (X := #[.string l[k].1, .string l[k].2]) (e := 31) (j := 1) (v := .string l[k].2) wr rfl); have p1 := cell_later hbx (cell_old (o := .cells #[.string l[k].1, .string l[k].2] 31) hg g1); have p2 := cell_later hbx (cell_old (o := .cells #[.string l[k].1, .string l[k].2] 31) hg g2); have p3 := froz_old (o := .cells #[.string l[k].1, .string l[k].2] 31) hbx hg f1; have p4 := froz_old (o := .cells #[.string l[k].1, .string l[k].2] 31) hbx hg f2; have hzx : wr.heap.size < wx.heap.size := (by have hz0 := hbx.size; simp at hz0; omega); have HX := Lib.hid hbx; clear hbx)
      all_goals
        go_wp2
        go_roundw
        case rel =>
          have hB := belowCall ((HB.out.alloc HB.out.size (.cells #[.string l[k].1, .string l[k].2] 31)).drew) HX.out
          have hO := own_below (own_below HO.out (((Below.refl _ _).alloc (Nat.le_refl _) (.cells #[.string l[k].1, .string l[k].2] 31)).drew)) HX.out
          have hR := HW.out.below (((Below.refl _ _).alloc (Nat.le_refl _) (.cells #[.string l[k].1, .string l[k].2] 31)).drew) HW.out.lt
          have hR' := hR.below HX.out hR.lt
          refine ⟨k + 1, by omega, by go_num, (hB.setCell (by simp) _).setCell (by simp) _, ?_, ?_⟩
          · exact (hR'.kept (heap_setCell_other _ _ _ _ (by simp))).kept (heap_setCell_other _ _ _ _ (by simp))
          · have hS := ((hO.stored (k * 2) (.string (large svgAttrs l[k].1))).1.stored (k * 2 + 1) (.string l[k].2)).1
            rw [part_step svgAttrs l k hlt] at hS
            exact hS
        case measure => simp [intOf]; omega
    · obtain rfl : k = l.length := by omega
      clear hb hwd ho
      go_wp2_with fail
      go_ret
      exact ⟨_, rfl, by have := HO.out; rw [part_all] at this; exact this, HB.out⟩

set_option maxRecDepth 100000 in
set_option maxHeartbeats 2000000 in
theorem attrs_math (l : List Pair) (a : Option Addr) (c : Nat) (w : World) (hl : l.length ≤ 2097152) (ha : At w a (pairsV l)) :
    Calls Try.prog 22 #[.int .i64 2, .slice a l.length c] w fun e w' => ∃ v, e = .returned v ∧ w'.ownsRow w.heap.size 31 2 v l.length (pairsV (attrsF 2 l)) ∧ Below w.heap.size w w' := by
  obtain ⟨i0, hi, hz0, hz1, hz2⟩ := info_parts info_attr
  have HA := Lib.hid ha
  clear ha
  go_enter Try.func22, Try.ntmps22
  have hb2 : i0.bytes * l.length ≤ 281474976710656 := by rw [hz2]; omega
  have hb3 : l.length ≤ maxLen := by unfold maxLen; omega
  go_wp2_with (at_make; refine wpList_make_full _ rfl _ _ 22 rfl w.heap.size 31 i0 _ 2 Try.underlying22 hi hz0 hz1 .i64 .i64 (l.length : Int) (l.length : Int) l.length rfl rfl rfl rfl hb2 hb3 (by simp) ?_; intro w1 hown hgr; have HO := Lib.hid hown; have HG := Lib.hid hgr; clear hown hgr hi hz0 hz1 hz2 hb2 hb3)
  go_loopw [21] (fun i wr => ∃ k : Nat, k ≤ l.length ∧ i = .int .i64 k ∧ Below w.heap.size w wr ∧ Row wr w.heap.size (strsV mathAttrs) ∧ wr.ownsRow w.heap.size 31 2 (.slice (some ⟨w.heap.size + 1, 0, none⟩) l.length l.length) l.length (pairsV (part (mathAttrs) l k))) (fun i _ => l.length - (intOf i).toNat)
  case atStart =>
    refine ⟨0, Nat.zero_le _, rfl, ((Below.refl _ _).alloc (Nat.le_refl _) _).grown HG.out (by simp) (fun k h => by cases h), (Row.alloc w _ _).kept (HG.out.block _ (by simp) (by simp)), ?_⟩
    rw [part_zero, ← made_pairs]
    have h := HO.out
    simp only [World.size_alloc, Value.cells] at h
    exact h
  case round =>
    obtain ⟨k, hk, rfl, hb, hwd, ho⟩ := hrel
    clear HO HG
    have HB := Lib.hid hb
    have HW := Lib.hid hwd
    have HO := Lib.hid ho
    by_cases hlt : k < l.length
    · obtain ⟨b, o, rfl, hlb, h1, h2⟩ := pair_cells (HA.out.below hb) hlt
      have hn : (part (mathAttrs) l k).length = l.length := part_length _ l k hk
      have hkp : k < (part (mathAttrs) l k).length := by rw [hn]; exact hlt
      have g1 : wr.cell? ⟨w.heap.size + 1, k * 2, none⟩ = some (.string (part (mathAttrs) l k)[k].1) := (own_row ho).cell (pairsV_get0 _ k hkp)
      have g2 : wr.cell? ⟨w.heap.size + 1, k * 2 + 1, none⟩ = some (.string (part (mathAttrs) l k)[k].2) := (own_row ho).cell (pairsV_get1 _ k hkp)
      have f1 : wr.frozen? ⟨w.heap.size + 1, k * 2, none⟩ = false := ho.frozenAt _
      have f2 : wr.frozen? ⟨w.heap.size + 1, k * 2 + 1, none⟩ = false := ho.frozenAt _
      have hg := (own_row ho).lt
      have HN := Lib.hid hn
      clear hb hwd ho hn
      go_wp2_with fail
      go_region_with (go_at_call 66; refine (written_any _ (mathAttrs) _ _ _ (by decide) (by decide) ?_).mono ?_; (exact (HW.out.below (((Below.refl _ _).alloc (Nat.le_refl _) _).drew) HW.out.lt).at); rintro e wx ⟨rfl, hbx⟩; have p0 := cell_later hbx (cell_next (X := #[.string l[k].1, .string l[k].2]) (e := 31) (j := 1) (v := .string l[k].2) wr rfl); have p1 := cell_later hbx (cell_old (o := .cells #[.string l[k].1, .string l[k].2] 31) hg g1); have p2 := cell_later hbx (cell_old (o := .cells #[.string l[k].1, .string l[k].2] 31) hg g2); have p3 := froz_old (o := .cells #[.string l[k].1, .string l[k].2] 31) hbx hg f1; have p4 := froz_old (o := .cells #[.string l[k].1, .string l[k].2] 31) hbx hg f2; have hzx : wr.heap.size < wx.heap.size := (by have hz0 := hbx.size; simp at hz0; omega); have HX := Lib.hid hbx; clear hbx)
      all_goals
        go_wp2
        go_roundw
        case rel =>
          have hB := belowCall ((HB.out.alloc HB.out.size (.cells #[.string l[k].1, .string l[k].2] 31)).drew) HX.out
          have hO := own_below (own_below HO.out (((Below.refl _ _).alloc (Nat.le_refl _) (.cells #[.string l[k].1, .string l[k].2] 31)).drew)) HX.out
          have hR := HW.out.below (((Below.refl _ _).alloc (Nat.le_refl _) (.cells #[.string l[k].1, .string l[k].2] 31)).drew) HW.out.lt
          have hR' := hR.below HX.out hR.lt
          refine ⟨k + 1, by omega, by go_num, (hB.setCell (by simp) _).setCell (by simp) _, ?_, ?_⟩
          · exact (hR'.kept (heap_setCell_other _ _ _ _ (by simp))).kept (heap_setCell_other _ _ _ _ (by simp))
          · have hS := ((hO.stored (k * 2) (.string (large mathAttrs l[k].1))).1.stored (k * 2 + 1) (.string l[k].2)).1
            rw [part_step mathAttrs l k hlt] at hS
            exact hS
        case measure => simp [intOf]; omega
    · obtain rfl : k = l.length := by omega
      clear hb hwd ho
      go_wp2_with fail
      go_ret
      exact ⟨_, rfl, by have := HO.out; rw [part_all] at this; exact this, HB.out⟩

set_option maxRecDepth 100000 in
set_option maxHeartbeats 2000000 in
theorem attrs_other (space : Int) (h1 : (space == 1) = false) (h2' : (space == 2) = false) (l : List Pair) (a : Option Addr) (c : Nat) (w : World) (hl : l.length ≤ 2097152) (ha : At w a (pairsV l)) :
    Calls Try.prog 22 #[.int .i64 space, .slice a l.length c] w fun e w' => ∃ v, e = .returned v ∧ w'.ownsRow w.heap.size 31 2 v l.length (pairsV (attrsF space l)) ∧ Below w.heap.size w w' := by
  have HE : Hid (attrsF space l = l.map (adjust [])) := by show _ = _; rw [attrsF, wordsOf, if_neg (by simpa using h1), if_neg (by simpa using h2')]
  obtain ⟨i0, hi, hz0, hz1, hz2⟩ := info_parts info_attr
  have HA := Lib.hid ha
  clear ha
  go_enter Try.func22, Try.ntmps22
  have hb2 : i0.bytes * l.length ≤ 281474976710656 := by rw [hz2]; omega
  have hb3 : l.length ≤ maxLen := by unfold maxLen; omega
  go_wp2_with (at_make; refine wpList_make_full _ rfl _ _ 22 rfl w.heap.size 31 i0 _ 2 Try.underlying22 hi hz0 hz1 .i64 .i64 (l.length : Int) (l.length : Int) l.length rfl rfl rfl rfl hb2 hb3 (by simp) ?_; intro w1 hown hgr; have HO := Lib.hid hown; have HG := Lib.hid hgr; clear hown hgr hi hz0 hz1 hz2 hb2 hb3)
  go_loopw [21] (fun i wr => ∃ k : Nat, k ≤ l.length ∧ i = .int .i64 k ∧ Below w.heap.size w wr ∧ wr.ownsRow w.heap.size 31 2 (.slice (some ⟨w.heap.size, 0, none⟩) l.length l.length) l.length (pairsV (part (([] : List ByteArray)) l k))) (fun i _ => l.length - (intOf i).toNat)
  case atStart =>
    refine ⟨0, Nat.zero_le _, rfl, (Below.refl _ _).grown HG.out (by simp) (fun k h => by cases h), ?_⟩
    rw [part_zero, ← made_pairs]
    have h := HO.out
    simp only [Value.cells] at h
    exact h
  case round =>
    obtain ⟨k, hk, rfl, hb, ho⟩ := hrel
    clear HO HG
    have HB := Lib.hid hb
    have HO := Lib.hid ho
    by_cases hlt : k < l.length
    · obtain ⟨b, o, rfl, hlb, h1, h2⟩ := pair_cells (HA.out.below hb) hlt
      have hn : (part (([] : List ByteArray)) l k).length = l.length := part_length _ l k hk
      have hkp : k < (part (([] : List ByteArray)) l k).length := by rw [hn]; exact hlt
      have g1 : wr.cell? ⟨w.heap.size, k * 2, none⟩ = some (.string (part (([] : List ByteArray)) l k)[k].1) := (own_row ho).cell (pairsV_get0 _ k hkp)
      have g2 : wr.cell? ⟨w.heap.size, k * 2 + 1, none⟩ = some (.string (part (([] : List ByteArray)) l k)[k].2) := (own_row ho).cell (pairsV_get1 _ k hkp)
      have f1 : wr.frozen? ⟨w.heap.size, k * 2, none⟩ = false := ho.frozenAt _
      have f2 : wr.frozen? ⟨w.heap.size, k * 2 + 1, none⟩ = false := ho.frozenAt _
      have hg := (own_row ho).lt
      have HN := Lib.hid hn
      clear hb ho hn
      go_wp2_with fail
      go_region_with (go_at_call 66; refine (written_any _ (([] : List ByteArray)) _ _ _ (by decide) (by decide) ?_).mono ?_; (exact At.nil _ _); rintro e wx ⟨rfl, hbx⟩; have p0 := cell_later hbx (cell_next (X := #[.string l[k].1, .string l[k].2]) (e := 31) (j := 1) (v := .string l[k].2) wr rfl); have p1 := cell_later hbx (cell_old (o := .cells #[.string l[k].1, .string l[k].2] 31) hg g1); have p2 := cell_later hbx (cell_old (o := .cells #[.string l[k].1, .string l[k].2] 31) hg g2); have p3 := froz_old (o := .cells #[.string l[k].1, .string l[k].2] 31) hbx hg f1; have p4 := froz_old (o := .cells #[.string l[k].1, .string l[k].2] 31) hbx hg f2; have hzx : wr.heap.size < wx.heap.size := (by have hz0 := hbx.size; simp at hz0; omega); have HX := Lib.hid hbx; clear hbx)
      all_goals
        go_wp2
        go_roundw
        case rel =>
          have hB := belowCall ((HB.out.alloc HB.out.size (.cells #[.string l[k].1, .string l[k].2] 31)).drew) HX.out
          have hO := own_below (own_below HO.out (((Below.refl _ _).alloc (Nat.le_refl _) (.cells #[.string l[k].1, .string l[k].2] 31)).drew)) HX.out
          refine ⟨k + 1, by omega, by go_num, (hB.setCell (by simp) _).setCell (by simp) _, ?_⟩
          · have hS := ((hO.stored (k * 2) (.string (large ([] : List ByteArray) l[k].1))).1.stored (k * 2 + 1) (.string l[k].2)).1
            rw [part_step ([] : List ByteArray) l k hlt] at hS
            exact hS
        case measure => simp [intOf]; omega
    · obtain rfl : k = l.length := by omega
      clear hb ho
      go_wp2_with fail
      go_ret
      exact ⟨_, rfl, by have := HO.out; rw [part_all, ← HE.out] at this; exact this, HB.out⟩


theorem attrs_any (space : Int) (l : List Pair) (a : Option Addr) (c : Nat) (w : World) (hl : l.length ≤ 2097152) (ha : At w a (pairsV l)) :
    Calls Try.prog 22 #[.int .i64 space, .slice a l.length c] w fun e w' => ∃ v, e = .returned v ∧ w'.ownsRow w.heap.size 31 2 v l.length (pairsV (attrsF space l)) ∧ Below w.heap.size w w' := by
  by_cases h1 : space = 1
  · subst h1; exact attrs_svg l a c w hl ha
  · by_cases h2 : space = 2
    · subst h2; exact attrs_math l a c w hl ha
    · exact attrs_other space (by simpa using h1) (by simpa using h2) l a c w hl ha
end Go.Proofs.Ytflphgmblipglaa
