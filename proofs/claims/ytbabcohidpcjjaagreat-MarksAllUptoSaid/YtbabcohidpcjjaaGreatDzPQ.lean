import Derived.Test.YtbabcohidpcjjaaGreatZRS
import Derived.ArgAppend
import Derived.Test.YtbabcohidpcjjaaGreatZAll
/-
  Contract: the law's spoil: whoever has marks writes over them: only blocks of their owner change. (Seat 4's '.Z'.)
-/
namespace Go.Proofs.YtbabcohidpcjjaaGreat
open Go.RowKit Mem

/-- no block changes its type or its size -/
def Shp (u u' : World) : Prop := ∀ (g : Nat) (cur : Array Value) (e : TypeId), u.heap[g]? = some (Obj.cells cur e (0, 0)) → ∃ cur' : Array Value, u'.heap[g]? = some (.cells cur' e (0, 0)) ∧ cur'.size = cur.size
theorem Shp.trans {a b c : World} (h : Shp a b) (h' : Shp b c) : Shp a c := fun g cur e hg => by
  obtain ⟨x, hx, h1⟩ := h g cur e hg
  obtain ⟨y, hy, h2⟩ := h' g x e hx
  exact ⟨y, hy, h2.trans h1⟩
theorem Shp.set (u : World) (p : Addr) (v : Value) : Shp u (u.setCell p v) := fun g cur e h => by
  by_cases hg : g = p.block
  · subst hg
    refine ⟨if p.spot.isSome then cur else cur.setIfInBounds p.off v, ?_, ?_⟩
    · simp [World.setCell, Array.getElem?_modify, h]
    · split <;> simp
  · exact ⟨cur, (heap_setCell_other _ _ _ _ hg).trans h, rfl⟩
theorem Shp.old {u u' : World} (h : ∀ k, k < u.heap.size → u'.heap[k]? = u.heap[k]?) : Shp u u' := fun g cur _ hg =>
  ⟨cur, (h g (Array.getElem?_eq_some_iff.1 hg).1).trans hg, rfl⟩
theorem Shp.sets (b : Nat) : ∀ (vs : List Value) (o : Nat) (u : World), Shp u (u.setCells b o vs)
  | [], _, _ => fun _ cur _ h => ⟨cur, h, rfl⟩
  | v :: r, o, u => (Shp.set u ⟨b, o, none⟩ v).trans (Shp.sets b r (o + 1) _)
/-- blocks of other types stay -/
def Oth (e : TypeId) (u u' : World) : Prop := ∀ (g : Nat) (cur : Array Value) (t : TypeId), t ≠ e → u.heap[g]? = some (Obj.cells cur t (0, 0)) → u'.heap[g]? = some (.cells cur t (0, 0))
theorem Oth.trans {e : TypeId} {a b c : World} (h : Oth e a b) (h' : Oth e b c) : Oth e a c := fun g cur t ht hg => h' g cur t ht (h g cur t ht hg)
theorem Oth.old {e : TypeId} {u u' : World} (h : ∀ k, k < u.heap.size → u'.heap[k]? = u.heap[k]?) : Oth e u u' := fun g _ _ _ hg => (h g (Array.getElem?_eq_some_iff.1 hg).1).trans hg
theorem Oth.set {e : TypeId} {u : World} {b o : Nat} {c0 : Array Value} (h : u.heap[b]? = some (.cells c0 e (0, 0))) (v : Value) : Oth e u (u.setCell ⟨b, o, none⟩ v) := fun g cur t ht hg => by
  have hne : g ≠ b := fun e' => by
    subst e'
    rw [h] at hg
    cases hg
    exact ht rfl
  exact (heap_setCell_other _ _ _ _ hne).trans hg
theorem Oth.sets {e : TypeId} (b : Nat) : ∀ (vs : List Value) (o : Nat) (u : World) (c0 : Array Value), u.heap[b]? = some (.cells c0 e (0, 0)) → Oth e u (u.setCells b o vs)
  | [], _, _, _, _ => fun _ _ _ _ h => h
  | v :: r, o, u, c0, h => by
    obtain ⟨c1, h1, -⟩ := Shp.set u ⟨b, o, none⟩ v b c0 e h
    exact (Oth.set h v).trans (Oth.sets b r (o + 1) _ c1 h1)
theorem below_setCells3 {B b : Nat} {a : World} (hb : B ≤ b) : ∀ (vs : List Value) (o : Nat) (w : World), Below B a w → Below B a (w.setCells b o vs)
  | [], _, _, h => h
  | v :: r, o, _, h => below_setCells3 hb r (o + 1) _ (h.setCell (by exact hb) v)
/-- a row of one's own, whatever it holds -/
def RowIn (u : World) (base : Nat) (e : TypeId) (size : Nat) (v : Value) (n : Nat) : Prop :=
  (v = .slice none 0 0 ∧ n = 0) ∨ ∃ g cap cur, v = .slice (some ⟨g, 0, none⟩) n cap ∧ base ≤ g ∧ u.heap[g]? = some (.cells cur e (0, 0)) ∧ n ≤ cap ∧ cap ≤ maxLen ∧ cur.size = cap * size
theorem RowIn.of {u : World} {base : Nat} {e : TypeId} {size : Nat} {v : Value} {n : Nat} {xs : List Value} (h : u.ownsRow base e size v n xs) : RowIn u base e size v n := by
  rcases h.2 with h | ⟨g, cap, cur, h1, h2, h3, h4, h5, h6, -⟩
  · exact .inl h
  · exact .inr ⟨g, cap, cur, h1, h2, h3, h4, h5, h6⟩
theorem RowIn.shp {u u' : World} {base : Nat} {e : TypeId} {size : Nat} {v : Value} {n : Nat} (h : RowIn u base e size v n) (s : Shp u u') : RowIn u' base e size v n := by
  rcases h with h | ⟨g, cap, cur, h1, h2, h3, h4, h5, h6⟩
  · exact .inl h
  · obtain ⟨cur', h7, h8⟩ := s g cur e h3
    exact .inr ⟨g, cap, cur', h1, h2, h7, h4, h5, h8.trans h6⟩
theorem RowIn.slice {u : World} {base : Nat} {e : TypeId} {size : Nat} {v : Value} {n : Nat} (h : RowIn u base e size v n) : ∃ a c, v = .slice a n c := by
  rcases h with ⟨h, rfl⟩ | ⟨g, cap, cur, h1, -⟩
  · exact ⟨_, _, h⟩
  · exact ⟨_, _, h1⟩
theorem cells_get {u : World} {g : Nat} {cur : Array Value} {e : TypeId} (h : u.heap[g]? = some (.cells cur e (0, 0))) (j : Nat) (hj : j < cur.size) : u.cell? ⟨g, j, none⟩ = some cur[j] := by
  simp [World.cell?, h, hj]
theorem cells_free {u : World} {g : Nat} {cur : Array Value} {e : TypeId} (h : u.heap[g]? = some (.cells cur e (0, 0))) (j : Nat) : u.frozen? ⟨g, j, none⟩ = false := by
  simp [World.frozen?, h]
/-- an append onto a row of one's own, whatever it holds -/
theorem wpList_append_row {P : Program} (w : World) {ops : Array Oper} {rest : List Oper} {o : Oper} {a : Act} {Q : Exit → Act → World → Prop}
    (hg : o.guard = none) (s x : Operand) (t : TypeId) (hop : o.op = Op.call { callee := Callee.builtin Builtin.append, args := #[s, x], argTypes := #[t, t] })
    (e : TypeId) (i : TypeInfo) (z : Value) (size bytes : Nat) (h1 : P.underlying t = some (.slice e)) (h2 : P.info? e = some i) (h3 : i.zero = some z) (h4 : i.size = size) (h5 : i.bytes = bytes) (h6 : z.cells.size = size) (h7 : 0 < size)
    (base n : Nat) (v : Value) (hs : a.eval s = v) (hrow : RowIn w base e size v n) (hbase : base ≤ w.heap.size)
    (ad : Addr) (m c : Nat) (news : List Value) (hx : a.eval x = .slice (some ad) m c) (hn : news.length = m * size) (hc : ∀ j u, news[j]? = some u → w.cell? (ad.add j) = some u) (h1c : ∀ u ∈ news, u.oneCell' = true) (hm : 0 < m)
    (b1 : n + m ≤ maxLen) (b2 : (n + m) * bytes ≤ 140737488355328)
    (hK : ∀ g c' w', RowIn w' base e size (.slice (some ⟨g, 0, none⟩) (n + m) c') (n + m) → Shp w w' → Oth e w w' → Below base w w' → wpList P ops Q rest (a.put o.dst (.slice (some ⟨g, 0, none⟩) (n + m) c')) w') :
    wpList P ops Q (o :: rest) a w := by
  have grown : ∀ v' w' xs, w'.ownsRow w.heap.size e size v' (n + m) xs → w.grownBy w' none → wpList P ops Q rest (a.put o.dst v') w' := fun v' w' xs ho hgr => by
    obtain ⟨g, cap, rfl, -⟩ := own_some ho (by omega)
    refine hK g cap w' ?_ (Shp.old fun k hk => hgr.block k hk (fun e => by cases e)) (Oth.old fun k hk => hgr.block k hk (fun e => by cases e)) ⟨hgr.os, hgr.tape, hgr.output, hgr.size, fun k hk => hgr.block k (by omega) (fun e => by cases e)⟩
    exact RowIn.of (own_base ho hbase)
  rcases hrow with ⟨rfl, rfl⟩ | ⟨g, cap, cur, rfl, hbg, hcur, hnc, hcm, hsz⟩
  · exact wpList_append_grows w hg s x t hop e i z size bytes h1 h2 h3 h4 h5 h6 h7 none 0 0 [] hs (fun _ => ⟨rfl, rfl⟩) (by simp) (fun b hb => by cases hb) ad m c news hx hn hc h1c (by omega) b1 b2 fun v' w' ho hgr => grown v' w' _ ho hgr
  · have hns : n * size ≤ cur.size := by rw [hsz]; exact Nat.mul_le_mul_right _ hnc
    refine wpList_append_arg w hg s x t hop e i z size bytes h1 h2 h3 h4 h5 h6 h7 g 0 n cap (cur.toList.take (n * size)) hs (by rw [List.length_take, Array.length_toList]; omega) (fun j u hj => ?_) ad m c news hx hn hc h1c (fun hr j hj => ?_) b1 b2 (fun hr => ?_) (fun _ v' w' ho hgr => grown v' w' _ ho hgr)
    · have hjn : j < n * size := by
        have := (List.getElem?_eq_some_iff.1 hj).1
        rw [List.length_take] at this
        omega
      rw [Nat.zero_add]
      rw [List.getElem?_take_of_lt hjn] at hj
      rw [cells_get hcur j (by omega), ← hj]
      rw [Array.getElem?_toList, Array.getElem?_eq_getElem (by omega)]
    · have hnm : (n + m) * size ≤ cap * size := Nat.mul_le_mul_right _ hr
      rw [Nat.add_mul, ← hn] at hnm
      rw [Nat.zero_add]
      refine ⟨?_, cells_free hcur _⟩
      rw [cells_get hcur (n * size + j) (by omega)]
      rfl
    · have s1 := Shp.sets g news (0 + n * size) w
      have s2 := Oth.sets g news (0 + n * size) w cur hcur
      obtain ⟨cur', h8, h9⟩ := s1 g cur e hcur
      exact hK g cap _ (.inr ⟨g, cap, cur', rfl, hbg, h8, hr, hcm, h9.trans hsz⟩) s1 s2 (below_setCells3 hbg news (0 + n * size) w (Below.refl _ _))

/-- within spoil: the marks from the k-th on are as they were -/
structure SP (base gm : Nat) (w : World) (L : MS) (k : Nat) (u : World) : Prop where
  below : Below base w u
  row : ∃ cur : Array Value, u.heap[gm]? = some (.cells cur 46 (0, 0)) ∧ L.length * 5 ≤ cur.size
  cells : ∀ j, k * 5 ≤ j → j < L.length * 5 → u.cell? ⟨gm, j, none⟩ = (marksV L)[j]?
  ats : ∀ p ∈ L, RowIn u base 56 2 p.2 p.1.attrs.length
theorem below_trans {B : Nat} {a b c : World} (h : Below B a b) (h' : Below B b c) : Below B a c := h.trans h'
theorem SP.attrs {base gm k : Nat} {w u u' : World} {L : MS} (h : SP base gm w L k u) (s : Shp u u') (o : Oth 56 u u') (b : Below base u u') : SP base gm w L k u' := by
  obtain ⟨cur, h1, h2⟩ := h.row
  have h3 := o gm cur 46 (by decide) h1
  refine ⟨h.below.trans b, ⟨cur, h3, h2⟩, fun j h4 h5 => ?_, fun p hp => (h.ats p hp).shp s⟩
  rw [← h.cells j h4 h5]
  exact World.cell?_of_block (h3.trans h1.symm)
theorem SP.done {base gm k : Nat} {w u : World} {L : MS} (h : SP base gm w L k u) (hb : base ≤ gm) (v0 v1 v2 v3 v4 : Value) : SP base gm w L (k + 1) (((((u.setCell ⟨gm, k * 5, none⟩ v0).setCell ⟨gm, k * 5 + 1, none⟩ v1).setCell ⟨gm, k * 5 + 2, none⟩ v2).setCell ⟨gm, k * 5 + 3, none⟩ v3).setCell ⟨gm, k * 5 + 4, none⟩ v4) := by
  have s := ((((Shp.set u ⟨gm, k * 5, none⟩ v0).trans (Shp.set _ ⟨gm, k * 5 + 1, none⟩ v1)).trans (Shp.set _ ⟨gm, k * 5 + 2, none⟩ v2)).trans (Shp.set _ ⟨gm, k * 5 + 3, none⟩ v3)).trans (Shp.set _ ⟨gm, k * 5 + 4, none⟩ v4)
  obtain ⟨cur, h1, h2⟩ := h.row
  obtain ⟨cur', h3, h4⟩ := s gm cur _ h1
  refine ⟨((((h.below.setCell (by exact hb) _).setCell (by exact hb) _).setCell (by exact hb) _).setCell (by exact hb) _).setCell (by exact hb) _, ⟨cur', h3, by omega⟩, fun j h5 h6 => ?_, fun p hp => (h.ats p hp).shp s⟩
  have ne : ∀ i, i < 5 → (⟨gm, k * 5 + i, none⟩ : Addr) ≠ ⟨gm, j, none⟩ := fun i hi e => by
    have := congrArg Addr.off e
    simp only at this
    omega
  rw [World.cell?_setCell_other _ _ _ _ (ne 4 (by decide)), World.cell?_setCell_other _ _ _ _ (ne 3 (by decide)), World.cell?_setCell_other _ _ _ _ (ne 2 (by decide)), World.cell?_setCell_other _ _ _ _ (ne 1 (by decide)), World.cell?_setCell_other _ _ _ _ (show (⟨gm, k * 5, none⟩ : Addr) ≠ ⟨gm, j, none⟩ from ne 0 (by decide))]
  exact h.cells j (by omega) h6
set_option maxRecDepth 100000 in
set_option maxHeartbeats 4000000 in
theorem spoil_any (L : MS) (base : Nat) (a : Option Addr) (c : Nat) (w : World) (h : w.ownsRow base 46 5 (.slice a L.length c) L.length (marksV L)) (ha : AtsOwn base L w) (hb : base ≤ w.heap.size) (hf : ∀ p ∈ L, p.1.attrs.length ≤ 8) (hL : L.length ≤ 10000000000) :
    Calls Tryz.prog 10 #[.slice a L.length c] w fun r w' => r = .returned (.tuple #[]) ∧ Below base w w' := by
  obtain ⟨j0', hj, hj0, hj1, hj2⟩ := info_parts info_attr
  rcases Nat.eq_zero_or_pos L.length with h0 | h0
  · have h0i : ¬ (0 : Int) < (L.length : Int) := by omega
    go_enter Tryz.func10, Tryz.ntmps10
    go_wp2_with fail
    go_loopg [2] 0 (fun g v wr => v = .int .i64 0 ∧ w = wr)
    case atStart => exact ⟨rfl, rfl⟩
    case round =>
      obtain ⟨rfl, rfl⟩ := hrel
      go_wp2_with fail
      go_end0
      exact ⟨by first | rfl | trivial, Below.refl _ _⟩
  · obtain ⟨gm, cap, hsl, hgb, hcap, hcur⟩ := own_some h h0
    obtain ⟨rfl, rfl⟩ : a = some ⟨gm, 0, none⟩ ∧ c = cap := by simpa using hsl
    have hrow := own_row h
    have HS0 : Hid (SP base gm w L 0 w) := by
      refine ⟨Below.refl _ _, ?_, fun j _ hj => ?_, fun p hp => RowIn.of (ha p hp)⟩
      · rcases h.2 with ⟨hn, -⟩ | ⟨g, cp, cur, h1, h2, h3, h4, h5, h6, -⟩
        · cases hn
        · cases h1
          exact ⟨cur, h3, by rw [h6]; exact Nat.mul_le_mul_right _ h4⟩
      · have hlt : j < (marksV L).length := by rw [marksV_length]; exact hj
        rw [List.getElem?_eq_getElem hlt]
        exact hrow.cell (List.getElem?_eq_getElem hlt)
    have HF := Lib.hid hf
    clear h ha hsl hrow hcap hcur hf h0
    go_enter Tryz.func10, Tryz.ntmps10
    go_wp2_with fail
    go_loopg [2] (L.length) (fun g v wr => ∃ k : Nat, k ≤ L.length ∧ L.length - k ≤ g ∧ v = .int .i64 k ∧ SP base gm w L k wr)
    case atStart => exact ⟨0, Nat.zero_le _, Nat.le_refl _, rfl, HS0.out⟩
    case round =>
      obtain ⟨k, hk, hgk, rfl, hsp⟩ := hrel
      have HS := Lib.hid hsp
      clear hsp HS0
      by_cases hkL : k < L.length
      · have hkLi : (k : Int) < (L.length : Int) := by omega
        have hpin := List.getElem_mem hkL
        have hget : ∀ j, j < 5 → wr.cell? ⟨gm, k * 5 + j, none⟩ = (markC L[k])[j]? := fun j hj => by
          rw [HS.out.cells _ (by omega) (by omega)]
          exact marksV_get L k hkL j hj
        have hri := HS.out.ats _ hpin
        have hp8 := HF.out _ hpin
        generalize L[k] = p at *
        obtain ⟨x, sl⟩ := p
        simp only at hri hp8
        obtain ⟨a1, c1, rfl⟩ := hri.slice
        have x2 : wr.cell? ⟨gm, k * 5 + 2, none⟩ = some (.slice a1 x.attrs.length c1) := hget 2 (by decide)
        obtain ⟨n1, hn1⟩ : ∃ n1, n1 = x.attrs.length := ⟨_, rfl⟩
        rw [← hn1] at hri hp8 x2
        have hzw := Nat.le_trans hb HS.out.below.size
        have HR3 := Lib.hid (hri.shp (Shp.old fun k hk => heap_alloc_old wr (.cells #[.string ⟨#[]⟩, .string ⟨#[]⟩] 56) hk))
        have HS3 := Lib.hid (HS.out.attrs (u' := wr.alloc (.cells #[.string ⟨#[]⟩, .string ⟨#[]⟩] 56)) (Shp.old fun k hk => heap_alloc_old _ _ hk) (Oth.old fun k hk => heap_alloc_old _ _ hk) ((Below.refl _ _).alloc hzw _))
        have HN := Lib.hid (news_two (w := wr) rfl (.string ⟨#[]⟩) (.string ⟨#[]⟩) 56)
        have hz3 : base ≤ (wr.alloc (.cells #[.string ⟨#[]⟩, .string ⟨#[]⟩] 56)).heap.size := by simp; omega
        have hb1 : n1 + 1 ≤ maxLen := by unfold maxLen; omega
        have hb2 : (n1 + 1) * 32 ≤ 140737488355328 := by omega
        clear hget hri hpin hn1 HS
        go_wp2_with (at_builtin; go_must (refine wpList_append_row _ rfl _ _ 44 rfl 56 j0' _ 2 32 Tryz.underlying44 hj hj0 hj1 hj2 rfl (by decide) base n1 _ rfl HR3.out hz3 _ 1 1 [.string ⟨#[]⟩, .string ⟨#[]⟩] rfl rfl HN.out (two_one (⟨#[]⟩, ⟨#[]⟩)) (by decide) hb1 hb2 ?_; intro g4 c4 w4 hr4 hs4 ho4 hb4; have HR4 := Lib.hid hr4; have HS4 := Lib.hid (HS3.out.attrs hs4 ho4 hb4); clear hr4 hs4 ho4 hb4))
        go_loopg [4] (n1 + 1) (fun g v wi => ∃ q : Nat, q ≤ n1 + 1 ∧ n1 + 1 - q ≤ g ∧ v = .int .i64 q ∧ SP base gm w L k wi ∧ RowIn wi base 56 2 (.slice (some ⟨g4, 0, none⟩) (n1 + 1) c4) (n1 + 1))
        case atStart => exact ⟨0, Nat.zero_le _, Nat.le_refl _, rfl, HS4.out, HR4.out⟩
        case round =>
          obtain ⟨q, hq, hgq, rfl, hsp, hri⟩ := hrel
          have HS5 := Lib.hid hsp
          have HR5 := Lib.hid hri
          clear hsp
          by_cases hqn : q < n1 + 1
          · have hqi : (q : Int) < ((n1 : Int) + 1) := by omega
            rcases hri with ⟨h1, -⟩ | ⟨g, cp, cur, h1, h2, h3, h4, h5, h6⟩
            · cases h1
            · cases h1
              have e0 := cells_get h3 (q * 2) (by omega)
              have e1 := cells_get h3 (q * 2 + 1) (by omega)
              have f0 := cells_free h3 (q * 2)
              have f1 := cells_free h3 (q * 2 + 1)
              generalize cur[q * 2]'(by omega) = y0 at *
              generalize cur[q * 2 + 1]'(by omega) = y1 at *
              have HC := Lib.hid h3
              have hbg := h2
              clear h3 h4 h5 h6
              go_wp2_with fail
              have HSet : Hid (Shp wr ((wr.setCell ⟨g4, q * 2, none⟩ (.string ⟨#[33]⟩)).setCell ⟨g4, q * 2 + 1, none⟩ (.string ⟨#[]⟩))) := (Shp.set _ _ _).trans (Shp.set _ _ _)
              have HOt : Hid (Oth 56 wr ((wr.setCell ⟨g4, q * 2, none⟩ (.string ⟨#[33]⟩)).setCell ⟨g4, q * 2 + 1, none⟩ (.string ⟨#[]⟩))) := by
                obtain ⟨cur', h7, -⟩ := Shp.set wr ⟨g4, q * 2, none⟩ (.string ⟨#[33]⟩) g4 cur _ HC.out
                exact (Oth.set HC.out _).trans (Oth.set h7 _)
              go_roundg (n1 + 1 - (q + 1))
              case measure => omega
              case rel => exact ⟨q + 1, by omega, Nat.le_refl _, by go_num, HS5.out.attrs HSet.out HOt.out (((Below.refl _ _).setCell (by exact hbg) _).setCell (by exact hbg) _), HR5.out.shp HSet.out⟩
          · have hqi : ¬ (q : Int) < ((n1 : Int) + 1) := by omega
            obtain ⟨cur, h3, h6⟩ := HS5.out.row
            have e0 := cells_get h3 (k * 5) (by omega)
            have e1 := cells_get h3 (k * 5 + 1) (by omega)
            have e2 := cells_get h3 (k * 5 + 2) (by omega)
            have e3 := cells_get h3 (k * 5 + 3) (by omega)
            have e4 := cells_get h3 (k * 5 + 4) (by omega)
            have f0 := cells_free h3 (k * 5)
            have f1 := cells_free h3 (k * 5 + 1)
            have f2 := cells_free h3 (k * 5 + 2)
            have f3 := cells_free h3 (k * 5 + 3)
            have f4 := cells_free h3 (k * 5 + 4)
            generalize cur[k * 5]'(by omega) = y0 at *
            generalize cur[k * 5 + 1]'(by omega) = y1 at *
            generalize cur[k * 5 + 2]'(by omega) = y2 at *
            generalize cur[k * 5 + 3]'(by omega) = y3 at *
            generalize cur[k * 5 + 4]'(by omega) = y4 at *
            clear h3 h6 hri x2
            go_wp2_with fail
            go_roundg (L.length - (k + 1))
            case measure => omega
            case rel => exact ⟨k + 1, by omega, Nat.le_refl _, by go_num, HS5.out.done hgb _ _ _ _ _⟩
      · have hkLi : ¬ (k : Int) < (L.length : Int) := by omega
        go_wp2_with fail
        go_end0
        exact ⟨by first | rfl | trivial, HS.out.below⟩
end Go.Proofs.YtbabcohidpcjjaaGreat

/-
  The walk of MarksAll: it returns true. (Seat 4's '.Z'.)
-/
namespace Go.Proofs.YtbabcohidpcjjaaGreat
open Go.RowKit Mem

theorem same_yes {L M : MS} (h : L.map (·.1) = M.map (·.1)) : decide (L.map (·.1) = M.map (·.1)) = true := decide_eq_true h
theorem marksF_lenS (s : ByteArray) (hs : s.size ≤ 1048576) : (marksF s.toList).1.length ≤ 10000000 := by
  have := marksF_len s.toList
  rw [size_toList] at this
  omega
set_option maxRecDepth 100000 in
set_option maxHeartbeats 8000000 in
theorem law_MarksAll (s : ByteArray) (hs : s.size ≤ 1048576) (y : Int) (w : World) (hm : maxAt w y) :
    Calls Tryz.prog 3 #[.string s] w fun e w' => e = .returned (.bool true) ∧ Below w.heap.size w w' := by
  have HM := Lib.hid hm
  have hlen := marksF_lenS s hs
  have hok := marksF_ok s.toList
  clear hm
  go_enter Tryz.func3, Tryz.ntmps3
  go_wp2_with fail
  refine (shown_any y w HM.out).mono ?_
  rintro r W1 ⟨rfl, hb⟩
  have HM1 := Lib.hid (max_below HM.out hb)
  have HB1 := Lib.hid hb
  clear hb
  dsimp only
  go_wp2_with fail
  refine (dAll_any s W1 (by omega)).mono ?_
  rintro r W2 ⟨h, hb⟩
  have HM2 := Lib.hid (max_below HM1.out hb)
  have HB2 := Lib.hid (belowCall HB1.out hb)
  have HMA := Lib.hid (fun u (hu : maxAt u y) => Marks_all s y u hu (by omega))
  clear hb
  generalize marksF s.toList = o at *
  have HOK := Lib.hid hok
  clear hok
  rcases h with ⟨h1, h2, rfl⟩ | ⟨h1, v, M, rfl, h2, h3, h4⟩
  · have hne := Lib.hid h1
    have HO1 := Lib.hid h2
    obtain ⟨er, her⟩ : ∃ er, er = o.2 := ⟨_, rfl⟩
    rw [← her]
    have HER := Lib.hid her
    have hee : (er != er) = false := by simp
    clear h1 h2 her
    dsimp only
    go_wp2_with fail
    go_loopg [6] 2 (fun g v wr => ∃ k : Nat, k ≤ 2 ∧ 2 - k ≤ g ∧ v = .int .i64 k ∧ Below w.heap.size w wr ∧ Below W2.heap.size W2 wr)
    case atStart => exact ⟨0, by omega, Nat.le_refl _, rfl, HB2.out, Below.refl _ _⟩
    case round =>
      obtain ⟨k, hk, hgk, rfl, hb1, hb2⟩ := hrel
      have HBr := Lib.hid hb1
      have HBs := Lib.hid hb2
      clear hb1 hb2
      by_cases hk2 : k < 2
      · have hki : (k : Int) < 2 := by omega
        go_wp2_with fail
        refine (HMA.out wr (max_below HM2.out HBs.out)).mono ?_
        rintro r W3 ⟨h, hb⟩
        rcases h with ⟨-, -, rfl⟩ | ⟨h1, -⟩
        · rw [← HER.out]
          have HB3 := Lib.hid hb
          clear hb
          dsimp only
          go_wp2_with fail
          refine (Same_any [] [] none none 0 0 W3 (At.nil _ _) (fun p hp => (by cases hp)) (At.nil _ _) (fun p hp => (by cases hp)) (by decide) (by decide)).mono ?_
          rintro r W4 ⟨rfl, hb⟩
          rw [show decide ((([] : MS).map (·.1)) = (([] : MS).map (·.1))) = true from decide_eq_true rfl]
          have HB4 := Lib.hid (belowCall HB3.out hb)
          clear hb
          dsimp only
          go_wp2_with fail
          refine (spoil_any [] W4.heap.size none 0 W4 (World.ownsRow_nil _ _ _ _) (fun p hp => (by cases hp)) (Nat.le_refl _) (fun p hp => (by cases hp)) (by decide)).mono ?_
          rintro r W5 ⟨rfl, hb⟩
          have HB5 := Lib.hid (belowCall HB4.out hb)
          clear hb
          dsimp only
          go_wp2_with fail
          go_roundg (2 - (k + 1))
          case measure => omega
          case rel => exact ⟨k + 1, by omega, Nat.le_refl _, by go_num, belowCall HBr.out HB5.out, belowCall HBs.out HB5.out⟩
        · exact absurd h1 hne.out
      · have hki : ¬ (k : Int) < 2 := by omega
        go_wp2_with fail
        go_ret
        exact ⟨rfl, HBr.out⟩
  · obtain ⟨ma, mc, hv, -, -, -, hat⟩ := own_at h3
    subst hv
    have HMAT := Lib.hid hat
    have HMAA := Lib.hid h4.1
    have hml : M.length ≤ 10000000 := by
      have := congrArg List.length h2
      rw [List.length_map] at this
      omega
    have HM2' := Lib.hid h2
    have hz := Lib.hid h1
    clear h1 h2 h3 h4 hat
    dsimp only
    go_wp2_with fail
    go_loopg [6] 2 (fun g v wr => ∃ k : Nat, k ≤ 2 ∧ 2 - k ≤ g ∧ v = .int .i64 k ∧ Below w.heap.size w wr ∧ Below W2.heap.size W2 wr)
    case atStart => exact ⟨0, by omega, Nat.le_refl _, rfl, HB2.out, Below.refl _ _⟩
    case round =>
      obtain ⟨k, hk, hgk, rfl, hb1, hb2⟩ := hrel
      have HBr := Lib.hid hb1
      have HBs := Lib.hid hb2
      clear hb1 hb2
      by_cases hk2 : k < 2
      · have hki : (k : Int) < 2 := by omega
        go_wp2_with fail
        refine (HMA.out wr (max_below HM2.out HBs.out)).mono ?_
        rintro r W3 ⟨h, hb⟩
        rcases h with ⟨h1, -⟩ | ⟨-, v, L, rfl, h2, h3, h4⟩
        · exact absurd hz.out h1
        · obtain ⟨la, lc, hv, -, -, -, hat⟩ := own_at h3
          subst hv
          have HLAT := Lib.hid hat
          have HLO := Lib.hid h3
          have HLA := Lib.hid h4
          have hll : L.length ≤ 10000000 := by
            have := congrArg List.length h2
            rw [List.length_map] at this
            omega
          have HFEW : Hid (∀ p ∈ L, p.1.attrs.length ≤ 8) := fun p hp => (HOK.out.2.1 p.1 (by rw [← h2]; exact List.mem_map_of_mem hp)).few
          have HEQ : Hid (L.map (·.1) = M.map (·.1)) := h2.trans HM2'.out.symm
          have HB3 := Lib.hid hb
          have HB23 := Lib.hid (belowCall HBs.out hb)
          clear hb h2 h3 h4 hat
          dsimp only
          go_wp2_with fail
          refine (Same_any L M la ma lc mc W3 HLAT.out (ats_at HLA.out HFEW.out) (HMAT.out.below HB23.out) (HMAA.out.below HB23.out) (by omega) (by omega)).mono ?_
          rintro r W4 ⟨rfl, hb⟩
          rw [same_yes HEQ.out]
          have HB4 := Lib.hid (belowCall HB3.out hb)
          have HLO4 := Lib.hid (own_below HLO.out hb)
          have HLA4 := Lib.hid (ats_below HLA.out hb)
          clear hb
          dsimp only
          go_wp2_with fail
          refine (spoil_any L wr.heap.size la lc W4 HLO4.out HLA4.out HB4.out.size HFEW.out (by omega)).mono ?_
          rintro r W5 ⟨rfl, hb⟩
          have HB5 := Lib.hid (HB4.out.trans hb)
          clear hb
          dsimp only
          go_wp2_with fail
          go_roundg (2 - (k + 1))
          case measure => omega
          case rel => exact ⟨k + 1, by omega, Nat.le_refl _, by go_num, belowCall HBr.out HB5.out, belowCall HBs.out HB5.out⟩
      · have hki : ¬ (k : Int) < 2 := by omega
        go_wp2_with fail
        go_ret
        exact ⟨rfl, HBr.out⟩
end Go.Proofs.YtbabcohidpcjjaaGreat
