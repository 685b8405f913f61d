/-
  The walk of MarksTags: it returns true.
-/
import Derived.Test.YtbabcohidpcjjaaMkWd
import Derived.Test.YtbabcohidpcjjaaMkEs
import Derived.Deep.DeepCutAuto
import Derived.Deep.RegionHeld3
import Derived.Deep.RegionWith
namespace Go.Proofs.Ytbabcohidpcjjaa
open Go.RowKit Mem

/-! plain: the tag that is written -/
theorem escG_ok2 (attr : Bool) : ∀ (s : Str) (skip : Bool), OkB s → OkB (escG attr skip s)
  | [], skip, _ => by cases skip <;> exact fun _ h => by cases h
  | d :: r, true, h => by
    rw [escG]
    exact escG_ok2 attr r false fun y hy => h y (List.mem_cons_of_mem _ hy)
  | d :: r, false, h => by
    have hr : OkB r := fun y hy => h y (List.mem_cons_of_mem _ hy)
    rw [escG]
    split
    · refine OkB.append ?_ (escG_ok2 attr r true hr)
      unfold OkB; decide
    · refine OkB.append ?_ (escG_ok2 attr r false hr)
      unfold escOne
      split
      · unfold OkB; decide
      · split
        · unfold OkB; decide
        · split
          · unfold OkB; decide
          · split
            · unfold OkB; decide
            · intro x hx
              rw [List.mem_singleton.1 hx]
              exact h d List.mem_cons_self
def rawA (L : List (Str × Str)) : List (Str × Str) := L.map fun a => (a.1, escS true a.2)
theorem readA_raw (L : List (Str × Str)) : readA (rawA L) = L := by
  unfold readA rawA
  rw [List.map_map]
  conv => rhs; rw [← List.map_id L]
  refine List.map_congr_left fun a _ => ?_
  show (a.1, allS (escS true a.2) true) = a
  rw [allS_escS]
/-- the attributes so far -/
structure Own (L : List (Str × Str)) : Prop where
  ok : ∀ a ∈ L, (Name a.1 ∧ a.1.length ≤ 12) ∧ OkB a.2 ∧ a.2.length ≤ 3000
  apart : L.Pairwise fun a b => a.1 ≠ b.1
theorem Own.start : Own [] := ⟨fun _ h => (by cases h), List.Pairwise.nil⟩
theorem Own.push {L : List (Str × Str)} (h : Own L) {a : Str × Str} (h1 : Name a.1 ∧ a.1.length ≤ 12) (h2 : OkB a.2 ∧ a.2.length ≤ 3000) (hn : ∀ b ∈ L, b.1 ≠ a.1) : Own (L ++ [a]) :=
  ⟨fun x hx => (List.mem_append.1 hx).elim (h.ok x) fun hx => by rw [List.mem_singleton.1 hx]; exact ⟨h1, h2⟩,
   List.pairwise_append.2 ⟨h.apart, List.pairwise_singleton _ _, fun x hx z hz => by rw [List.mem_singleton.1 hz]; exact hn x hx⟩⟩
theorem Own.atts {L : List (Str × Str)} (h : Own L) : Atts (rawA L) :=
  ⟨fun a ha => by
    obtain ⟨b, hb, rfl⟩ := List.mem_map.1 ha
    exact ⟨(h.ok b hb).1.1, fun c hc => (escG_signs true b.2 false c hc).2.2 rfl⟩, by
    unfold rawA
    rw [List.pairwise_map]
    exact h.apart⟩
theorem attsT_push (L : List (Str × Str)) (a : Str × Str) : attsT (rawA (L ++ [a])) = attsT (rawA L) ++ (32 :: (a.1 ++ 61 :: 34 :: (escS true a.2 ++ [34]))) := by
  unfold rawA attsT
  rw [List.map_append, List.flatMap_append]
  simp
theorem attsT_len : ∀ {L : List (Str × Str)}, (∀ a ∈ L, a.1.length ≤ 12 ∧ a.2.length ≤ 3000) → (attsT (rawA L)).length ≤ 18016 * L.length
  | [], _ => Nat.le_refl _
  | a :: L, h => by
    have ih := attsT_len (L := L) fun x hx => h x (List.mem_cons_of_mem _ hx)
    obtain ⟨h1, h2⟩ := h a List.mem_cons_self
    have he := escG_len true a.2 false
    have e : attsT (rawA (a :: L)) = (32 :: (a.1 ++ 61 :: 34 :: (escS true a.2 ++ [34]))) ++ attsT (rawA L) := by
      unfold rawA attsT
      rw [List.map_cons, List.flatMap_cons]
    rw [e, List.length_append, List.length_cons]
    simp only [List.length_append, List.length_cons, List.length_nil]
    unfold escS
    omega
theorem Own.okB {L : List (Str × Str)} (h : Own L) : OkB (attsT (rawA L)) := by
  intro c hc
  obtain ⟨a, ha, hc⟩ := List.mem_flatMap.1 hc
  obtain ⟨b, hb, rfl⟩ := List.mem_map.1 ha
  obtain ⟨⟨h1, -⟩, h2, -⟩ := h.ok b hb
  rcases List.mem_cons.1 hc with rfl | hc
  · exact ⟨by decide, by decide⟩
  · rcases List.mem_append.1 hc with hc | hc
    · have := nmB_signs c (h1.all c hc); exact ⟨this.2.2.2.2.2.1, this.2.2.2.2.1⟩
    · rcases List.mem_cons.1 hc with rfl | hc
      · exact ⟨by decide, by decide⟩
      · rcases List.mem_cons.1 hc with rfl | hc
        · exact ⟨by decide, by decide⟩
        · rcases List.mem_append.1 hc with hc | hc
          · exact escG_ok2 true b.2 false h2 c hc
          · rw [List.mem_singleton.1 hc]; exact ⟨by decide, by decide⟩
/-- what the tag's marks are -/
theorem marks_tags {nm : Str} {L : List (Str × Str)} (b : Bool) (hn : Name nm) (hc : ∃ c r, nm = c :: r ∧ letterB c = true) (h : Own L) :
    marksF (tagT false nm (rawA L) b) = if 2048 < (tagT false nm (rawA L) b).length then ([], 41) else if 8 < L.length then ([], 42) else ([⟨2, nm, L, b, []⟩], 0) := by
  obtain ⟨c, r, hc1, hc2⟩ := hc
  have hp := parseF_tag (e := false) (b := b) hn h.atts
  rw [readA_raw, show (rawA L).length = L.length from List.length_map _] at hp
  simp only [Bool.false_eq_true, if_false] at hp
  obtain ⟨T, hT⟩ : ∃ T, T = tagT false nm (rawA L) b := ⟨_, rfl⟩
  rw [← hT] at hp ⊢
  have hok : ∀ x ∈ ([] : Str) ++ T, x ≠ 13 ∧ x ≠ 0 := fun x hx => by
    rw [List.nil_append, hT] at hx
    unfold tagT at hx
    rcases List.mem_append.1 hx with hx | hx
    · exact (by decide : ∀ x ∈ ltT false, x ≠ 13 ∧ x ≠ 0) x hx
    · rcases List.mem_append.1 hx with hx | hx
      · have := nmB_signs x (hn.all x hx); exact ⟨this.2.2.2.2.1, this.2.2.2.2.2.1⟩
      · rcases List.mem_append.1 hx with hx | hx
        · have := h.okB x hx; exact ⟨this.2, this.1⟩
        · exact (by cases b <;> decide : ∀ x ∈ selfT b ++ [62], x ≠ 13 ∧ x ≠ 0) x hx
  have heq : T = ltT false ++ c :: (r ++ (attsT (rawA L) ++ (selfT b ++ [62]))) := by
    rw [hT]
    unfold tagT
    rw [hc1, List.cons_append]
  obtain ⟨m1, -, m3, m4⟩ := marks_tag (f := []) (T := T) (e := false) (fun _ h => by cases h) hc2 heq hok
  rw [List.nil_append] at m1 m3 m4
  by_cases hlen : T.length ≤ 2049
  · rw [List.take_of_length_le hlen, hp] at m1 m3 m4
    by_cases h1 : 2048 < T.length
    · rw [if_pos h1]
      refine m1 (.inl ?_)
      split
      · show (2048 : Int) < (T.length : Nat); omega
      · show (2048 : Int) < (T.length : Nat); omega
    · rw [if_neg h1]
      by_cases h8 : 8 < L.length
      · rw [if_pos h8] at m3 ⊢
        exact m3 (Int.natCast_nonneg _) (by show ((T.length : Nat) : Int) ≤ 2048; omega) (by show (42 : Int) ≠ 0; decide)
      · rw [if_neg h8] at m4 ⊢
        exact m4 rfl (by omega) rfl (by show (2 : Int) ≠ 1; decide)
  · rw [if_pos (by omega)]
    refine m1 ?_
    by_cases h0 : 0 ≤ (parseF (T.take 2049) false).2.1
    · exfalso
      obtain ⟨q1, q2⟩ := parseF_more h0 (T.drop 2049)
      rw [List.take_append_drop] at q1
      rw [← q1, hp, List.length_take] at q2
      split at q2
      · have q2 : ((T.length : Nat) : Int) ≤ ((min 2049 T.length : Nat) : Int) := q2; omega
      · have q2 : ((T.length : Nat) : Int) ≤ ((min 2049 T.length : Nat) : Int) := q2; omega
    · exact .inr ⟨by omega, by omega⟩
/-- a struct that was laid and is empty yet -/
def NewAt (base X : Nat) (W : World) : Prop := base ≤ X ∧ W.heap[X]? = some (.cells #[.string ⟨#[]⟩, .string ⟨#[]⟩] 38 (0, 0))
theorem NewAt.of {wr V u : World} {A B : Prop} (h : Below wr.heap.size wr V ∧ A ∧ B) (hb : Below (V.alloc (.cells #[.string ⟨#[]⟩, .string ⟨#[]⟩] 38)).heap.size (V.alloc (.cells #[.string ⟨#[]⟩, .string ⟨#[]⟩] 38)) u) : NewAt wr.heap.size V.heap.size u :=
  ⟨h.1.size, (hb.block _ (by simp)).trans (heap_alloc_new _ _)⟩
theorem NewAt.lt {base X : Nat} {V : World} (h : NewAt base X V) : X < V.heap.size := (Array.getElem?_eq_some_iff.1 h.2).1
theorem NewAt.keep {base X : Nat} {V u : World} (h : NewAt base X V) (hb : Below V.heap.size V u) : NewAt base X u := ⟨h.1, (hb.block X h.lt).trans h.2⟩
theorem NewAt.facts {base X : Nat} {W : World} (h : NewAt base X W) : W.cell? ⟨X, 0, none⟩ = some (.string ⟨#[]⟩) ∧ W.cell? ⟨X, 1, none⟩ = some (.string ⟨#[]⟩) ∧ W.frozen? ⟨X, 0, none⟩ = false ∧ W.frozen? ⟨X, 1, none⟩ = false := by
  refine ⟨?_, ?_, ?_, ?_⟩ <;> simp [World.cell?, World.frozen?, h.2]
theorem hasA_step (L : List (Str × Str)) (n : Str) (j : Nat) (h : j < L.length) : hasA (L.take (j + 1)) n = (hasA (L.take j) n || L[j].1 == n) := by
  unfold hasA
  rw [List.take_succ_eq_append_getElem h, List.any_append]
  simp
theorem hasA_no {L : List (Str × Str)} {n : Str} (h : hasA L n = false) : ∀ b ∈ L, b.1 ≠ n := fun b hb e => by
  unfold hasA at h
  rw [List.any_eq_false] at h
  exact h b hb (by rw [e]; exact beq_self_eq_true n)
set_option maxRecDepth 100000 in
set_option maxHeartbeats 8000000 in
theorem law_MarksTags (s : ByteArray) (hs : s.size ≤ 1048576) (l : List Pair) (a : Option Addr) (c : Nat) (w : World) (hat : At w a (pairsV l)) (hsz : ∀ q ∈ l, q.1.size ≤ 1048576 ∧ q.2.size ≤ 1048576) (b : Bool) (y : Int) (hm : maxAt w y) :
    Calls Try.prog 5 #[.string s, .slice a l.length c, .bool b] w fun r w' => r = .returned (.bool true) ∧ Below w.heap.size w w' := by
  have HM := Lib.hid hm
  have HA := Lib.hid hat
  have HSZ := Lib.hid hsz
  obtain ⟨i0, hi, hz0, hz1, hz2⟩ := info_parts info_attr
  obtain ⟨nm, hnm⟩ : ∃ nm, nm = wordF s.toList 20 := ⟨_, rfl⟩
  have HN : Hid (Name nm) := by rw [hnm]; exact wordF_name _ _
  have hnl : nm.length ≤ 20 := by rw [hnm]; exact wordF_len (by decide)
  have HNC : Hid (∃ c r, nm = c :: r ∧ letterB c = true) := by rw [hnm]; exact ⟨_, _, rfl, by decide⟩
  have hW := fun u => lword_any s 20 u (by omega) (by decide) (by decide)
  rw [← hnm] at hW
  have HW := Lib.hid hW
  have hcat0 : (⟨#[60]⟩ : ByteArray) ++ strB nm = strB (60 :: (nm ++ attsT (rawA []))) := by
    apply toList_inj
    rw [toList_append', toList_strB, toList_strB, show (⟨#[60]⟩ : ByteArray).toList = [60] from bytes_list [60]]
    simp [attsT, rawA]
  have hno0 : ¬ 9223372036854775807 < 1 + (strB nm).size := by rw [strB_size]; omega
  clear hm hat hsz hnm hW
  go_enter Try.func5, Try.ntmps5
  go_wp2_with fail
  refine (shown_any y w HM.out).mono ?_
  rintro r W1 ⟨rfl, hb⟩
  have HM1 := Lib.hid (max_below HM.out hb)
  have HB1 := Lib.hid hb
  clear hb HM
  dsimp only
  go_wp2_with fail
  refine (HW.out W1).mono ?_
  rintro r W2 ⟨rfl, hb⟩
  have HM2 := Lib.hid (max_below HM1.out hb)
  have HB2 := Lib.hid (belowCall HB1.out hb)
  have HA2 := Lib.hid (HA.out.below HB2.out)
  clear hb HM1 HB1 HA HW
  dsimp only
  go_wp2_with fail
  go_loopg [8, 9, 10] (l.length) (fun gg ov tv iv wr => ∃ (k : Nat) (L : List (Str × Str)), k ≤ l.length ∧ k ≤ 12 ∧ l.length - k ≤ gg ∧ iv = .int .i64 k ∧ tv = .string (strB (60 :: (nm ++ attsT (rawA L)))) ∧ Own L ∧ L.length ≤ k ∧ wr.ownsRow W2.heap.size 38 2 ov L.length (pairsV (attP L)) ∧ Below W2.heap.size W2 wr)
  case atStart => exact ⟨0, [], Nat.zero_le _, Nat.zero_le _, Nat.le_refl _, rfl, rfl, Own.start, Nat.zero_le _, World.ownsRow_nil _ _ _ _, Below.refl _ _⟩
  case round =>
    obtain ⟨k, L, hk, hk12, hgk, rfl, rfl, hown, hLk, ho, hb⟩ := hrel
    have HOW := Lib.hid hown
    have HO := Lib.hid ho
    have HB := Lib.hid hb
    have HZ := Lib.hid hb.size
    have hLen := attsT_len (L := L) fun x hx => ⟨(hown.ok x hx).1.2, (hown.ok x hx).2.2⟩
    clear hown ho hb
    by_cases hgo : k < l.length ∧ k < 12
    · obtain ⟨g1, g2⟩ := hgo
      obtain ⟨sb, so, rfl, hsb, a0, a1⟩ := pair_cells (HA2.out.below HB.out) g1
      obtain ⟨hq1, hq2⟩ := HSZ.out l[k] (List.getElem_mem g1)
      obtain ⟨an, han⟩ : ∃ an, an = wordF l[k].1.toList 12 := ⟨_, rfl⟩
      obtain ⟨av, hav⟩ : ∃ av, av = putF false l[k].2.toList := ⟨_, rfl⟩
      have HAN : Hid (Name an ∧ an.length ≤ 12) := by rw [han]; exact ⟨wordF_name _ _, wordF_len (by decide)⟩
      have HAV : Hid (OkB av) := by rw [hav]; exact putF_ok _ _
      have hW1 := fun u => lword_any l[k].1 12 u (by omega) (by decide) (by decide)
      have hP1 := fun u => plain_any l[k].2 u (by omega)
      rw [← han] at hW1
      rw [← hav] at hP1
      have havl : av.length ≤ 3145728 := by rw [hav]; have := putF_len l[k].2.toList false; rw [size_toList] at this; omega
      have HW1 := Lib.hid hW1
      have HP1 := Lib.hid hP1
      generalize l[k] = q at *
      clear han hav hW1 hP1
      have hS0 : Below wr.heap.size wr wr.drew ∧ wr.drew.cell? ⟨sb, so + k * 2, none⟩ = some (.string q.1) ∧ wr.drew.cell? ⟨sb, so + k * 2 + 1, none⟩ = some (.string q.2) := ⟨(Below.refl _ _).drew, a0, a1⟩
      have HNX : Hid (∀ W W' : World, (Below wr.heap.size wr W ∧ W.cell? ⟨sb, so + k * 2, none⟩ = some (.string q.1) ∧ W.cell? ⟨sb, so + k * 2 + 1, none⟩ = some (.string q.2)) → Below W.heap.size W W' → (Below wr.heap.size wr W' ∧ W'.cell? ⟨sb, so + k * 2, none⟩ = some (.string q.1) ∧ W'.cell? ⟨sb, so + k * 2 + 1, none⟩ = some (.string q.2))) := fun W W' h hb => ⟨belowCall h.1 hb, cell_later hb h.2.1, cell_later hb h.2.2⟩
      have HKA : Hid (∀ (W : World) (o : Obj), (Below wr.heap.size wr W ∧ W.cell? ⟨sb, so + k * 2, none⟩ = some (.string q.1) ∧ W.cell? ⟨sb, so + k * 2 + 1, none⟩ = some (.string q.2)) → (Below wr.heap.size wr (W.alloc o) ∧ (W.alloc o).cell? ⟨sb, so + k * 2, none⟩ = some (.string q.1) ∧ (W.alloc o).cell? ⟨sb, so + k * 2 + 1, none⟩ = some (.string q.2))) := fun W o h => HNX.out W _ h ((Below.refl _ W).alloc (Nat.le_refl _) o)
      go_upto_region 8 with fail
      go_cut [11] (fun t wx => ∃ g, t = .pointer (some ⟨g, 0, none⟩) ∧ wr.heap.size ≤ g ∧ g < wx.heap.size ∧ wx.heap[g]? = some (.cells #[.string (strB an), .string (strB av)] 38 (0, 0)) ∧ Below wr.heap.size wr wx)
      case first =>
        have z1 := hS0.2.1
        have z0 : sb ≠ wr.heap.size := Nat.ne_of_lt hsb
        have z2 := hS0.2.2
        go_region_with (first
          | (go_at_call 17; refine (HW1.out _).mono ?_; rintro e w4 ⟨rfl, hb⟩; have hk4 := HNX.out _ _ (by first | assumption | exact HKA.out _ _ (by assumption)) hb; have hk5 := hk4.2.1; have hk6 := hk4.2.2; have hl4 := lt_of_cell hk5; have hm4 := Nat.ne_of_lt hl4; (first | (have hx4 : NewAt wr.heap.size wr.heap.size w4 := NewAt.of (V := wr.drew) hS0 hb; obtain ⟨n0, n1, n2, n3⟩ := hx4.facts) | (have hx4 := NewAt.of (by assumption) hb; obtain ⟨n0, n1, n2, n3⟩ := hx4.facts) | (have hx4 := NewAt.keep (by assumption) hb; obtain ⟨n0, n1, n2, n3⟩ := hx4.facts) | skip); clear hb)
          | (go_at_call 18; refine (HP1.out _).mono ?_; rintro e w4 ⟨rfl, hb⟩; have hk4 := HNX.out _ _ (by first | assumption | exact HKA.out _ _ (by assumption)) hb; have hk5 := hk4.2.1; have hk6 := hk4.2.2; have hl4 := lt_of_cell hk5; have hm4 := Nat.ne_of_lt hl4; (first | (have hx4 : NewAt wr.heap.size wr.heap.size w4 := NewAt.of (V := wr.drew) hS0 hb; obtain ⟨n0, n1, n2, n3⟩ := hx4.facts) | (have hx4 := NewAt.of (by assumption) hb; obtain ⟨n0, n1, n2, n3⟩ := hx4.facts) | (have hx4 := NewAt.keep (by assumption) hb; obtain ⟨n0, n1, n2, n3⟩ := hx4.facts) | skip); clear hb))
        all_goals go_wp2_with fail
        all_goals go_meet
        all_goals first
          | exact ⟨_, rfl, hk4.1.size, by simp, heap_alloc_new _ _, hk4.1.alloc hk4.1.size _⟩
          | exact ⟨_, rfl, hx4.1, by simpa using hx4.lt, put2_at hx4.2 _ _, (hk4.1.setCell hx4.1 _).setCell hx4.1 _⟩
      case rest =>
        have hES := fun u => Escape12_any (strB av) true u (by rw [strB_size]; omega)
        rw [toList_strB] at hES
        have HES := Lib.hid hES
        have hel := escG_len true av false
        clear hES
        obtain ⟨g, rfl, hg, hgl, hgc, hbx⟩ := hcut
        have HBX := Lib.hid (HB.out.trans (hbx.mono HZ.out))
        have HOX := Lib.hid (own_below HO.out hbx)
        have HGX := Lib.hid hgc
        have hgW : W2.heap.size ≤ g := Nat.le_trans HZ.out hg
        have HOL := Lib.hid HO.out.lt
        obtain ⟨oa, oc, hv, -, -, -, hat⟩ := own_at HOX.out
        subst hv
        have HAT := Lib.hid hat
        clear hbx hgc hat HB HO HZ hS0 HNX HKA HW1 HP1 a0 a1 hsb
        rename World => Wx
        go_wp2_with fail
        go_loopg [12, 13] (L.length) (fun g2 bv jv wi => ∃ j : Nat, j ≤ L.length ∧ L.length - j ≤ g2 ∧ jv = .int .i64 j ∧ bv = .bool (hasA (L.take j) an) ∧ Below Wx.heap.size Wx wi)
        case atStart => exact ⟨0, Nat.zero_le _, Nat.le_refl _, rfl, rfl, Below.refl _ _⟩
        case round =>
          obtain ⟨j, hj, hgj, rfl, rfl, hbi⟩ := hrel
          have HBI := Lib.hid hbi
          have hgcell := (hbi.block g hgl).trans HGX.out
          have cg0 : wr.cell? ⟨g, 0, none⟩ = some (.string (strB an)) := by simp [World.cell?, hgcell]
          have cg1 : wr.cell? ⟨g, 1, none⟩ = some (.string (strB av)) := by simp [World.cell?, hgcell]
          clear hbi
          by_cases hjL : j < L.length
          · have hjp : j < (attP L).length := by rw [attP_length]; exact hjL
            obtain ⟨ob, oo, rfl, hob, p0, p1⟩ := pair_cells (HAT.out.below HBI.out) hjp
            rw [attP_get L j hjL hjp] at p0
            simp only at p0
            have hst := hasA_step L an j hjL
            obtain ⟨tt, htt⟩ : ∃ tt, tt = (L[j].1 == an) := ⟨_, rfl⟩
            have heq : ((strB L[j].1).toList == (strB an).toList) = tt := by rw [toList_strB, toList_strB, htt]
            rw [← htt] at hst
            have HST := Lib.hid hst
            clear hst htt hgcell cg1 p1
            generalize hasA (L.take j) an = old at *
            generalize L[j] = pj at *
            cases old
            · cases tt
              · go_wp2_with fail
                go_quiet (fail)
                go_wp2_with fail
                go_roundg (L.length - (j + 1))
                case measure => omega
                case rel => exact ⟨j + 1, by omega, Nat.le_refl _, by go_num, by rw [HST.out]; rfl, by first | exact HBI.out | exact HBI.out.drew | exact below_n HBI.out _⟩
              · go_wp2_with fail
                go_quiet (fail)
                go_wp2_with fail
                go_roundg (L.length - (j + 1))
                case measure => omega
                case rel => exact ⟨j + 1, by omega, Nat.le_refl _, by go_num, by rw [HST.out]; rfl, by first | exact HBI.out | exact HBI.out.drew | exact below_n HBI.out _⟩
            · go_wp2_with fail
              go_quiet (fail)
              go_wp2_with fail
              go_roundg (L.length - (j + 1))
              case measure => omega
              case rel => exact ⟨j + 1, by omega, Nat.le_refl _, by go_num, by rw [HST.out]; rfl, by first | exact HBI.out | exact HBI.out.drew | exact below_n HBI.out _⟩
          · obtain rfl : j = L.length := by omega
            rw [List.take_length]
            have HO2 := Lib.hid (own_below HOX.out HBI.out)
            have HBW := Lib.hid (HBX.out.trans (HBI.out.mono HBX.out.size))
            have hzz := HBW.out.size
            obtain ⟨old, hold⟩ : ∃ old, old = hasA L an := ⟨_, rfl⟩
            rw [← hold]
            cases old
            · have HNO := Lib.hid (hasA_no hold.symm)
              by_cases h3 : 3000 < av.length
              · have h3i : (3000 : Int) < ((strB av).size : Int) := by rw [strB_size]; omega
                clear hold hgcell
                go_wp2_with fail
                go_roundg (l.length - (k + 1))
                case measure => omega
                case rel => exact ⟨k + 1, L, by omega, by omega, Nat.le_refl _, by go_num, rfl, HOW.out, by omega, HO2.out, HBW.out⟩
              · have h3i : ¬ (3000 : Int) < ((strB av).size : Int) := by rw [strB_size]; omega
                have HNEW := Lib.hid (HOW.out.push (a := (an, av)) HAN.out ⟨HAV.out, by show av.length ≤ 3000; omega⟩ HNO.out)
                have hel : (escS true av).length ≤ 18000 := by unfold escS; omega
                have hL12 : 18016 * L.length ≤ 216192 := by omega
                have htx : (strB (60 :: (nm ++ attsT (rawA L)))).size ≤ 300000 := by rw [strB_size, List.length_cons, List.length_append]; omega
                have hans : (strB an).size ≤ 12 := by rw [strB_size]; exact HAN.out.2
                have hess : (strB (escS true av)).size ≤ 18000 := by rw [strB_size]; exact hel
                have hcat : strB (60 :: (nm ++ attsT (rawA L))) ++ ⟨#[32]⟩ ++ strB an ++ ⟨#[61, 34]⟩ ++ strB (escS true av) ++ ⟨#[34]⟩ = strB (60 :: (nm ++ attsT (rawA (L ++ [(an, av)])))) := by
                  apply toList_inj
                  rw [attsT_push, toList_append', toList_append', toList_append', toList_append', toList_append', toList_strB, toList_strB, toList_strB, toList_strB, show (⟨#[32]⟩ : ByteArray).toList = [32] from bytes_list [32], show (⟨#[61, 34]⟩ : ByteArray).toList = [61, 34] from bytes_list [61, 34], show (⟨#[34]⟩ : ByteArray).toList = [34] from bytes_list [34]]
                  simp
                have n1 : ¬ 9223372036854775807 < (strB (60 :: (nm ++ attsT (rawA L)))).size + 1 := by omega
                have n2 : ¬ 9223372036854775807 < (strB (60 :: (nm ++ attsT (rawA L)))).size + 1 + (strB an).size := by omega
                have n3 : ¬ 9223372036854775807 < (strB (60 :: (nm ++ attsT (rawA L)))).size + 1 + (strB an).size + 2 := by omega
                have n4 : ¬ 9223372036854775807 < (strB (60 :: (nm ++ attsT (rawA L)))).size + 1 + (strB an).size + 2 + (strB (escS true av)).size := by omega
                have n5 : ¬ 9223372036854775807 < (strB (60 :: (nm ++ attsT (rawA L)))).size + 1 + (strB an).size + 2 + (strB (escS true av)).size + 1 := by omega
                have b1 : L.length + 1 ≤ maxLen := by unfold maxLen; omega
                have b2 : (L.length + 1) * 32 ≤ 140737488355328 := by omega
                have HQ1 := Lib.hid (HO2.out.alloc (.cells #[.string (strB an), .string (strB av)] 38))
                have HBQ := Lib.hid (HBW.out.alloc HBW.out.size (.cells #[.string (strB an), .string (strB av)] 38))
                have HZQ := Lib.hid HBQ.out.size
                have HGQ := Lib.hid (show (wr.alloc (.cells #[.string (strB an), .string (strB av)] 38)).heap[g]? = _ from (heap_alloc_old _ _ (Array.getElem?_eq_some_iff.1 hgcell).1).trans hgcell)
                have HTX := Lib.hid hcat
                generalize htxe : strB (60 :: (nm ++ attsT (rawA L))) = tx at *
                clear hold hgcell hcat htxe hel hL12
                go_wp2_with (at_builtin; go_must (refine wpList_append_slice _ rfl _ _ 34 rfl W2.heap.size 38 i0 _ 2 32 Try.underlying34 hi hz0 hz1 hz2 rfl (by decide) _ L.length _ rfl HQ1.out (some ⟨wr.heap.size, 0, none⟩) 1 1 [.string (strB an), .string (strB av)] rfl rfl (fun h => by cases h) (at_alloc rfl rfl) (two_one (strB an, strB av)) b1 b2 HZQ.out ?_; intro v5 w5 hown5 hgr5; rw [← attP_push L (an, av)] at hown5; have HO5 := Lib.hid hown5; have HB5 := Lib.hid (HBQ.out.grown hgr5 HZQ.out (own_base_ge HQ1.out)); have HG5 := Lib.hid ((hgr5.block g (Array.getElem?_eq_some_iff.1 HGQ.out).1 (fun e => by have := (HOL.out g e.symm).2; omega)).trans HGQ.out); clear hown5 hgr5))
                have d0 : w5.cell? ⟨g, 0, none⟩ = some (.string (strB an)) := by simp [World.cell?, HG5.out]
                have d1 : w5.cell? ⟨g, 1, none⟩ = some (.string (strB av)) := by simp [World.cell?, HG5.out]
                refine wp_region_calm (by kernel_rfl) (by kernel_rfl) ?_
                repeat
                  with_reducible refine wpQuiet_step (fun K hK => ?_)
                  first
                    | (with_reducible apply calm_skip
                       · rfl
                       simp only [Act.put, List.setIfInBounds_toArray, List.set_cons_zero, List.set_cons_succ]
                       refine hK _ ?_
                       clear hK K)
                    | (with_reducible apply calm_run
                       · rfl
                       · intro wq hC
                         have zd0 := cell_later hC.out d0
                         have zd1 := cell_later hC.out d1
                         unfold Oper.quietAt
                         go_simp
                         first | done | (go_at_call 19; go_must (refine (HES.out _).mono ?_; rintro e wx ⟨rfl, hbx⟩; exact ⟨rfl, Lib.hid (belowCall hC.out hbx)⟩)) | with_reducible rfl | rfl
                       simp only [Act.put, List.setIfInBounds_toArray, List.set_cons_zero, List.set_cons_succ]
                       refine hK _ ?_
                       clear hK K)
                with_reducible refine wpQuiet_nil ?_
                intro wq HQ
                have zd0 := cell_later HQ.out d0
                have zd1 := cell_later HQ.out d1
                go_wp2_with fail
                go_roundg (l.length - (k + 1))
                case measure => omega
                case rel => exact ⟨k + 1, L ++ [(an, av)], by omega, by omega, Nat.le_refl _, by go_num, by rw [HTX.out], HNEW.out, by rw [List.length_append]; simp only [List.length_cons, List.length_nil]; omega, by rw [List.length_append]; exact own_below HO5.out HQ.out, HB5.out.trans (HQ.out.mono HB5.out.size)⟩
            · clear hold hgcell
              go_wp2_with fail
              go_roundg (l.length - (k + 1))
              case measure => omega
              case rel => exact ⟨k + 1, L, by omega, by omega, Nat.le_refl _, by go_num, rfl, HOW.out, by omega, HO2.out, HBW.out⟩
    · have hexit : (¬ (k : Int) < (l.length : Int)) ∨ ((k : Int) < (l.length : Int) ∧ ¬ (k : Int) < 12) := by omega
      obtain ⟨oa, oc, hv, -, -, h0, hat⟩ := own_at HO.out
      subst hv
      have HOAT : Hid ((oa = none → oc = 0) ∧ At wr oa (pairsV (attP L))) := ⟨h0, hat⟩
      have HMW := Lib.hid (max_below HM2.out HB.out)
      have HBF := Lib.hid (HB2.out.trans (HB.out.mono HB2.out.size))
      have htx : (strB (60 :: (nm ++ attsT (rawA L)))).size ≤ 300000 := by rw [strB_size, List.length_cons, List.length_append]; omega
      clear hgo h0 hat HB HZ HO hLen hcat0
      rcases hexit with x1 | ⟨x1, x2⟩
      · cases b
        · have hcF : strB (60 :: (nm ++ attsT (rawA L))) ++ ⟨#[62]⟩ = strB (tagT false nm (rawA L) false) := by
            apply toList_inj
            rw [toList_append', toList_strB, toList_strB, show (⟨#[62]⟩ : ByteArray).toList = [62] from bytes_list [62]]
            simp [tagT, ltT, selfT]
          have hTl : (tagT false nm (rawA L) false).length = (strB (60 :: (nm ++ attsT (rawA L)))).size + 1 := by
            have := congrArg ByteArray.size hcF
            rw [strB_size, ByteArray.size_append] at this
            rw [← this]
            rfl
          have hmk := marks_tags false HN.out HNC.out HOW.out
          rw [hTl] at hmk
          have hA := fun u hu => Marks_all (strB (tagT false nm (rawA L) false)) y u hu (by rw [strB_size, hTl]; omega)
          rw [toList_strB, hmk] at hA
          have HMK := Lib.hid hA
          generalize htxe : strB (60 :: (nm ++ attsT (rawA L))) = tx at *
          have n1 : ¬ 9223372036854775807 < tx.size + 1 := by omega
          have n2 : ¬ 9223372036854775807 < tx.size + 1 + 1 := by omega
          clear hTl hmk hA htxe
          by_cases h1 : 2048 < (tx).size + 1
          · have h1i : (2048 : Int) < ((tx).size : Int) + 1 := by omega
            rw [if_pos h1] at HMK
            clear h1
            go_wp2_with fail
            refine (HMK.out wr HMW.out).mono ?_
            rintro r W10 ⟨hr, hb10⟩
            obtain ⟨la, lc, La, hra, hla, -, -⟩ := marks_own hr
            obtain rfl := nil_of (show La.map (·.1) = [] from hla)
            subst hra
            have HB10 := Lib.hid (belowCall HBF.out hb10)
            clear hr hb10 hla
            dsimp only
            go_wp2_with fail
            go_ret
            exact ⟨rfl, HB10.out⟩
          · have h1i : ¬ (2048 : Int) < ((tx).size : Int) + 1 := by omega
            rw [if_neg h1] at HMK
            clear h1
            by_cases h8 : 8 < L.length
            · have h8i : (8 : Int) < (L.length : Int) := by omega
              rw [if_pos h8] at HMK
              clear h8
              go_wp2_with fail
              refine (HMK.out wr HMW.out).mono ?_
              rintro r W10 ⟨hr, hb10⟩
              obtain ⟨la, lc, La, hra, hla, -, -⟩ := marks_own hr
              obtain rfl := nil_of (show La.map (·.1) = [] from hla)
              subst hra
              have HB10 := Lib.hid (belowCall HBF.out hb10)
              clear hr hb10 hla
              dsimp only
              go_wp2_with fail
              go_ret
              exact ⟨rfl, HB10.out⟩
            · have h8i : ¬ (8 : Int) < (L.length : Int) := by omega
              rw [if_neg h8] at HMK
              go_wp2_with fail
              refine (HMK.out wr HMW.out).mono ?_
              rintro r W10 ⟨hr, hb10⟩
              obtain ⟨la, lc, La, hra, hla, hoa, hats⟩ := marks_own hr
              obtain ⟨va, rfl⟩ := one_of (show La.map (·.1) = [⟨2, nm, L, false, []⟩] from hla)
              subst hra
              have HB10 := Lib.hid (belowCall HBF.out hb10)
              have HATL := Lib.hid (own_at2 hoa).2
              have HATS := Lib.hid (ats_at hats fun p hp => by rw [List.mem_singleton.1 hp]; show L.length ≤ 8; omega)
              have HOA := Lib.hid (HOAT.out.2.below hb10)
              have HO0 := Lib.hid HOAT.out.1
              have hL100 : L.length ≤ 100 := by omega
              clear hr hb10 hla hoa hats h8
              dsimp only
              go_wp2_with fail
              refine (Same_true (L := [(⟨2, nm, L, false, []⟩, va)]) (M := [(⟨2, nm, L, false, []⟩, .slice oa L.length oc)]) rfl la (some ⟨W10.heap.size, 0, none⟩) lc 1 _ (HATL.out.below ((Below.refl _ _).alloc (Nat.le_refl _) _)) (HATS.out.below ((Below.refl _ _).alloc (Nat.le_refl _) _)) (at_alloc rfl rfl) (fun p hp => by
                rw [List.mem_singleton.1 hp]
                exact ⟨oa, oc, rfl, HO0.out, HOA.out.below ((Below.refl _ _).alloc (Nat.le_refl _) _), hL100⟩) (by simp)).mono ?_
              rintro r W11 ⟨rfl, hb11⟩
              have HB11 := Lib.hid ((HB10.out.alloc HB10.out.size _).trans (hb11.mono (by have := HB10.out.size; simp; omega)))
              clear hb11
              dsimp only
              go_wp2_with fail
              go_ret
              exact ⟨rfl, HB11.out⟩
        · have hcF : strB (60 :: (nm ++ attsT (rawA L))) ++ ⟨#[47]⟩ ++ ⟨#[62]⟩ = strB (tagT false nm (rawA L) true) := by
            apply toList_inj
            rw [toList_append', toList_append', toList_strB, toList_strB, show (⟨#[47]⟩ : ByteArray).toList = [47] from bytes_list [47], show (⟨#[62]⟩ : ByteArray).toList = [62] from bytes_list [62]]
            simp [tagT, ltT, selfT]
          have hTl : (tagT false nm (rawA L) true).length = (strB (60 :: (nm ++ attsT (rawA L)))).size + 1 + 1 := by
            have := congrArg ByteArray.size hcF
            rw [strB_size, ByteArray.size_append, ByteArray.size_append] at this
            rw [← this]
            rfl
          have hmk := marks_tags true HN.out HNC.out HOW.out
          rw [hTl] at hmk
          have hA := fun u hu => Marks_all (strB (tagT false nm (rawA L) true)) y u hu (by rw [strB_size, hTl]; omega)
          rw [toList_strB, hmk] at hA
          have HMK := Lib.hid hA
          generalize htxe : strB (60 :: (nm ++ attsT (rawA L))) = tx at *
          have n1 : ¬ 9223372036854775807 < tx.size + 1 := by omega
          have n2 : ¬ 9223372036854775807 < tx.size + 1 + 1 := by omega
          clear hTl hmk hA htxe
          by_cases h1 : 2048 < (tx).size + 1 + 1
          · have h1i : (2048 : Int) < ((tx).size : Int) + 1 + 1 := by omega
            rw [if_pos h1] at HMK
            clear h1
            go_wp2_with fail
            refine (HMK.out wr HMW.out).mono ?_
            rintro r W10 ⟨hr, hb10⟩
            obtain ⟨la, lc, La, hra, hla, -, -⟩ := marks_own hr
            obtain rfl := nil_of (show La.map (·.1) = [] from hla)
            subst hra
            have HB10 := Lib.hid (belowCall HBF.out hb10)
            clear hr hb10 hla
            dsimp only
            go_wp2_with fail
            go_ret
            exact ⟨rfl, HB10.out⟩
          · have h1i : ¬ (2048 : Int) < ((tx).size : Int) + 1 + 1 := by omega
            rw [if_neg h1] at HMK
            clear h1
            by_cases h8 : 8 < L.length
            · have h8i : (8 : Int) < (L.length : Int) := by omega
              rw [if_pos h8] at HMK
              clear h8
              go_wp2_with fail
              refine (HMK.out wr HMW.out).mono ?_
              rintro r W10 ⟨hr, hb10⟩
              obtain ⟨la, lc, La, hra, hla, -, -⟩ := marks_own hr
              obtain rfl := nil_of (show La.map (·.1) = [] from hla)
              subst hra
              have HB10 := Lib.hid (belowCall HBF.out hb10)
              clear hr hb10 hla
              dsimp only
              go_wp2_with fail
              go_ret
              exact ⟨rfl, HB10.out⟩
            · have h8i : ¬ (8 : Int) < (L.length : Int) := by omega
              rw [if_neg h8] at HMK
              go_wp2_with fail
              refine (HMK.out wr HMW.out).mono ?_
              rintro r W10 ⟨hr, hb10⟩
              obtain ⟨la, lc, La, hra, hla, hoa, hats⟩ := marks_own hr
              obtain ⟨va, rfl⟩ := one_of (show La.map (·.1) = [⟨2, nm, L, true, []⟩] from hla)
              subst hra
              have HB10 := Lib.hid (belowCall HBF.out hb10)
              have HATL := Lib.hid (own_at2 hoa).2
              have HATS := Lib.hid (ats_at hats fun p hp => by rw [List.mem_singleton.1 hp]; show L.length ≤ 8; omega)
              have HOA := Lib.hid (HOAT.out.2.below hb10)
              have HO0 := Lib.hid HOAT.out.1
              have hL100 : L.length ≤ 100 := by omega
              clear hr hb10 hla hoa hats h8
              dsimp only
              go_wp2_with fail
              refine (Same_true (L := [(⟨2, nm, L, true, []⟩, va)]) (M := [(⟨2, nm, L, true, []⟩, .slice oa L.length oc)]) rfl la (some ⟨W10.heap.size, 0, none⟩) lc 1 _ (HATL.out.below ((Below.refl _ _).alloc (Nat.le_refl _) _)) (HATS.out.below ((Below.refl _ _).alloc (Nat.le_refl _) _)) (at_alloc rfl rfl) (fun p hp => by
                rw [List.mem_singleton.1 hp]
                exact ⟨oa, oc, rfl, HO0.out, HOA.out.below ((Below.refl _ _).alloc (Nat.le_refl _) _), hL100⟩) (by simp)).mono ?_
              rintro r W11 ⟨rfl, hb11⟩
              have HB11 := Lib.hid ((HB10.out.alloc HB10.out.size _).trans (hb11.mono (by have := HB10.out.size; simp; omega)))
              clear hb11
              dsimp only
              go_wp2_with fail
              go_ret
              exact ⟨rfl, HB11.out⟩
      · cases b
        · have hcF : strB (60 :: (nm ++ attsT (rawA L))) ++ ⟨#[62]⟩ = strB (tagT false nm (rawA L) false) := by
            apply toList_inj
            rw [toList_append', toList_strB, toList_strB, show (⟨#[62]⟩ : ByteArray).toList = [62] from bytes_list [62]]
            simp [tagT, ltT, selfT]
          have hTl : (tagT false nm (rawA L) false).length = (strB (60 :: (nm ++ attsT (rawA L)))).size + 1 := by
            have := congrArg ByteArray.size hcF
            rw [strB_size, ByteArray.size_append] at this
            rw [← this]
            rfl
          have hmk := marks_tags false HN.out HNC.out HOW.out
          rw [hTl] at hmk
          have hA := fun u hu => Marks_all (strB (tagT false nm (rawA L) false)) y u hu (by rw [strB_size, hTl]; omega)
          rw [toList_strB, hmk] at hA
          have HMK := Lib.hid hA
          generalize htxe : strB (60 :: (nm ++ attsT (rawA L))) = tx at *
          have n1 : ¬ 9223372036854775807 < tx.size + 1 := by omega
          have n2 : ¬ 9223372036854775807 < tx.size + 1 + 1 := by omega
          clear hTl hmk hA htxe
          by_cases h1 : 2048 < (tx).size + 1
          · have h1i : (2048 : Int) < ((tx).size : Int) + 1 := by omega
            rw [if_pos h1] at HMK
            clear h1
            go_wp2_with fail
            refine (HMK.out wr HMW.out).mono ?_
            rintro r W10 ⟨hr, hb10⟩
            obtain ⟨la, lc, La, hra, hla, -, -⟩ := marks_own hr
            obtain rfl := nil_of (show La.map (·.1) = [] from hla)
            subst hra
            have HB10 := Lib.hid (belowCall HBF.out hb10)
            clear hr hb10 hla
            dsimp only
            go_wp2_with fail
            go_ret
            exact ⟨rfl, HB10.out⟩
          · have h1i : ¬ (2048 : Int) < ((tx).size : Int) + 1 := by omega
            rw [if_neg h1] at HMK
            clear h1
            by_cases h8 : 8 < L.length
            · have h8i : (8 : Int) < (L.length : Int) := by omega
              rw [if_pos h8] at HMK
              clear h8
              go_wp2_with fail
              refine (HMK.out wr HMW.out).mono ?_
              rintro r W10 ⟨hr, hb10⟩
              obtain ⟨la, lc, La, hra, hla, -, -⟩ := marks_own hr
              obtain rfl := nil_of (show La.map (·.1) = [] from hla)
              subst hra
              have HB10 := Lib.hid (belowCall HBF.out hb10)
              clear hr hb10 hla
              dsimp only
              go_wp2_with fail
              go_ret
              exact ⟨rfl, HB10.out⟩
            · have h8i : ¬ (8 : Int) < (L.length : Int) := by omega
              rw [if_neg h8] at HMK
              go_wp2_with fail
              refine (HMK.out wr HMW.out).mono ?_
              rintro r W10 ⟨hr, hb10⟩
              obtain ⟨la, lc, La, hra, hla, hoa, hats⟩ := marks_own hr
              obtain ⟨va, rfl⟩ := one_of (show La.map (·.1) = [⟨2, nm, L, false, []⟩] from hla)
              subst hra
              have HB10 := Lib.hid (belowCall HBF.out hb10)
              have HATL := Lib.hid (own_at2 hoa).2
              have HATS := Lib.hid (ats_at hats fun p hp => by rw [List.mem_singleton.1 hp]; show L.length ≤ 8; omega)
              have HOA := Lib.hid (HOAT.out.2.below hb10)
              have HO0 := Lib.hid HOAT.out.1
              have hL100 : L.length ≤ 100 := by omega
              clear hr hb10 hla hoa hats h8
              dsimp only
              go_wp2_with fail
              refine (Same_true (L := [(⟨2, nm, L, false, []⟩, va)]) (M := [(⟨2, nm, L, false, []⟩, .slice oa L.length oc)]) rfl la (some ⟨W10.heap.size, 0, none⟩) lc 1 _ (HATL.out.below ((Below.refl _ _).alloc (Nat.le_refl _) _)) (HATS.out.below ((Below.refl _ _).alloc (Nat.le_refl _) _)) (at_alloc rfl rfl) (fun p hp => by
                rw [List.mem_singleton.1 hp]
                exact ⟨oa, oc, rfl, HO0.out, HOA.out.below ((Below.refl _ _).alloc (Nat.le_refl _) _), hL100⟩) (by simp)).mono ?_
              rintro r W11 ⟨rfl, hb11⟩
              have HB11 := Lib.hid ((HB10.out.alloc HB10.out.size _).trans (hb11.mono (by have := HB10.out.size; simp; omega)))
              clear hb11
              dsimp only
              go_wp2_with fail
              go_ret
              exact ⟨rfl, HB11.out⟩
        · have hcF : strB (60 :: (nm ++ attsT (rawA L))) ++ ⟨#[47]⟩ ++ ⟨#[62]⟩ = strB (tagT false nm (rawA L) true) := by
            apply toList_inj
            rw [toList_append', toList_append', toList_strB, toList_strB, show (⟨#[47]⟩ : ByteArray).toList = [47] from bytes_list [47], show (⟨#[62]⟩ : ByteArray).toList = [62] from bytes_list [62]]
            simp [tagT, ltT, selfT]
          have hTl : (tagT false nm (rawA L) true).length = (strB (60 :: (nm ++ attsT (rawA L)))).size + 1 + 1 := by
            have := congrArg ByteArray.size hcF
            rw [strB_size, ByteArray.size_append, ByteArray.size_append] at this
            rw [← this]
            rfl
          have hmk := marks_tags true HN.out HNC.out HOW.out
          rw [hTl] at hmk
          have hA := fun u hu => Marks_all (strB (tagT false nm (rawA L) true)) y u hu (by rw [strB_size, hTl]; omega)
          rw [toList_strB, hmk] at hA
          have HMK := Lib.hid hA
          generalize htxe : strB (60 :: (nm ++ attsT (rawA L))) = tx at *
          have n1 : ¬ 9223372036854775807 < tx.size + 1 := by omega
          have n2 : ¬ 9223372036854775807 < tx.size + 1 + 1 := by omega
          clear hTl hmk hA htxe
          by_cases h1 : 2048 < (tx).size + 1 + 1
          · have h1i : (2048 : Int) < ((tx).size : Int) + 1 + 1 := by omega
            rw [if_pos h1] at HMK
            clear h1
            go_wp2_with fail
            refine (HMK.out wr HMW.out).mono ?_
            rintro r W10 ⟨hr, hb10⟩
            obtain ⟨la, lc, La, hra, hla, -, -⟩ := marks_own hr
            obtain rfl := nil_of (show La.map (·.1) = [] from hla)
            subst hra
            have HB10 := Lib.hid (belowCall HBF.out hb10)
            clear hr hb10 hla
            dsimp only
            go_wp2_with fail
            go_ret
            exact ⟨rfl, HB10.out⟩
          · have h1i : ¬ (2048 : Int) < ((tx).size : Int) + 1 + 1 := by omega
            rw [if_neg h1] at HMK
            clear h1
            by_cases h8 : 8 < L.length
            · have h8i : (8 : Int) < (L.length : Int) := by omega
              rw [if_pos h8] at HMK
              clear h8
              go_wp2_with fail
              refine (HMK.out wr HMW.out).mono ?_
              rintro r W10 ⟨hr, hb10⟩
              obtain ⟨la, lc, La, hra, hla, -, -⟩ := marks_own hr
              obtain rfl := nil_of (show La.map (·.1) = [] from hla)
              subst hra
              have HB10 := Lib.hid (belowCall HBF.out hb10)
              clear hr hb10 hla
              dsimp only
              go_wp2_with fail
              go_ret
              exact ⟨rfl, HB10.out⟩
            · have h8i : ¬ (8 : Int) < (L.length : Int) := by omega
              rw [if_neg h8] at HMK
              go_wp2_with fail
              refine (HMK.out wr HMW.out).mono ?_
              rintro r W10 ⟨hr, hb10⟩
              obtain ⟨la, lc, La, hra, hla, hoa, hats⟩ := marks_own hr
              obtain ⟨va, rfl⟩ := one_of (show La.map (·.1) = [⟨2, nm, L, true, []⟩] from hla)
              subst hra
              have HB10 := Lib.hid (belowCall HBF.out hb10)
              have HATL := Lib.hid (own_at2 hoa).2
              have HATS := Lib.hid (ats_at hats fun p hp => by rw [List.mem_singleton.1 hp]; show L.length ≤ 8; omega)
              have HOA := Lib.hid (HOAT.out.2.below hb10)
              have HO0 := Lib.hid HOAT.out.1
              have hL100 : L.length ≤ 100 := by omega
              clear hr hb10 hla hoa hats h8
              dsimp only
              go_wp2_with fail
              refine (Same_true (L := [(⟨2, nm, L, true, []⟩, va)]) (M := [(⟨2, nm, L, true, []⟩, .slice oa L.length oc)]) rfl la (some ⟨W10.heap.size, 0, none⟩) lc 1 _ (HATL.out.below ((Below.refl _ _).alloc (Nat.le_refl _) _)) (HATS.out.below ((Below.refl _ _).alloc (Nat.le_refl _) _)) (at_alloc rfl rfl) (fun p hp => by
                rw [List.mem_singleton.1 hp]
                exact ⟨oa, oc, rfl, HO0.out, HOA.out.below ((Below.refl _ _).alloc (Nat.le_refl _) _), hL100⟩) (by simp)).mono ?_
              rintro r W11 ⟨rfl, hb11⟩
              have HB11 := Lib.hid ((HB10.out.alloc HB10.out.size _).trans (hb11.mono (by have := HB10.out.size; simp; omega)))
              clear hb11
              dsimp only
              go_wp2_with fail
              go_ret
              exact ⟨rfl, HB11.out⟩
end Go.Proofs.Ytbabcohidpcjjaa
