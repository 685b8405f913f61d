import Derived.Test.YtclflmjpdglgiaaGreatFmE
import Derived.BigQuiet
/-
  Contract: colanderlaw15.shown: it returns true; the world behind has new blocks alone. And begun.
-/
namespace Go.Proofs.YtclflmjpdglgiaaGreat
open Go.RowKit Mem

theorem insertQ_yes {T U V : TreeD} {l : List Int} {on : Bool} {sp : Int} {nm : ByteArray} {at' : List Pair} {n p b : Int} (hm : mkF T (elemN sp nm at') = (U, n, 0)) (hp : placeQ U l on 0 = (p, b)) (hput : (putE U p b n).1 = V) : insertL T l on sp nm at' = (V, l ++ [n], n, 0) := by
  unfold insertL
  rw [hm]
  simp only
  rw [if_pos trivial, hp, ← hput]

def Q0 : TreeD := ⟨[rootN], 20, noFar⟩
def Q1 : TreeD := putF (addF Q0 (elemN 0 (⟨#[98, 111, 100, 121]⟩ : ByteArray) [])) 0 0 1
def Q2 : TreeD := putF (addF Q1 (elemN 0 (⟨#[98]⟩ : ByteArray) [])) 1 0 2
def Q3 : TreeD := putF (addF Q2 (elemN 0 (⟨#[112]⟩ : ByteArray) [])) 2 0 3
def Q4 : TreeD := (textE Q3 3 0 (⟨#[120]⟩ : ByteArray)).1
def Q5 : TreeD := putF Q4 1 0 3
def Q6 : TreeD := (likeF Q5 2).1
def Q7 : TreeD := putF Q6 5 0 4
def Q8 : TreeD := putF Q7 3 0 5

theorem q_ins1 : insertL Q0 [] false 0 (⟨#[98, 111, 100, 121]⟩ : ByteArray) [] = (Q1, [1], 1, 0) :=
  insertQ_yes (by kernel_rfl) (p := 0) (b := 0) (by kernel_rfl) (congrArg Prod.fst (putE_yes (T := addF Q0 (elemN 0 (⟨#[98, 111, 100, 121]⟩ : ByteArray) [])) 5 (by kernel_rfl) (by kernel_rfl) (by kernel_rfl) (by kernel_rfl) (by kernel_rfl)))
theorem q_ins2 : insertL Q1 [1] false 0 (⟨#[98]⟩ : ByteArray) [] = (Q2, [1, 2], 2, 0) :=
  insertQ_yes (by kernel_rfl) (p := 1) (b := 0) (by kernel_rfl) (congrArg Prod.fst (putE_yes (T := addF Q1 (elemN 0 (⟨#[98]⟩ : ByteArray) [])) 5 (by kernel_rfl) (by kernel_rfl) (by kernel_rfl) (by kernel_rfl) (by kernel_rfl)))
theorem q_ins3 : insertL Q2 [1, 2] false 0 (⟨#[112]⟩ : ByteArray) [] = (Q3, [1, 2, 3], 3, 0) :=
  insertQ_yes (by kernel_rfl) (p := 2) (b := 0) (by kernel_rfl) (congrArg Prod.fst (putE_yes (T := addF Q2 (elemN 0 (⟨#[112]⟩ : ByteArray) [])) 5 (by kernel_rfl) (by kernel_rfl) (by kernel_rfl) (by kernel_rfl) (by kernel_rfl)))
theorem q_push : pushF Q2 [] 2 = [2] := by kernel_rfl
theorem q_place : placeQ Q3 [1, 2, 3] false 0 = (3, 0) := by kernel_rfl
theorem q_adi : adoptL false (⟨#[105]⟩ : ByteArray) ⟨Q4, [1, 2, 3], [2]⟩ = (⟨Q4, [1, 2, 3], [2]⟩, false, 0) := by
  unfold adoptL
  rw [if_neg (show ¬ (namedF Q4 (([1, 2, 3] : List Int).getLast?.getD 0) [(⟨#[105]⟩ : ByteArray)] && decide (rfind [2] (([1, 2, 3] : List Int).getLast?.getD 0) < 0)) = true from by rw [show (namedF Q4 (([1, 2, 3] : List Int).getLast?.getD 0) [(⟨#[105]⟩ : ByteArray)] && decide (rfind [2] (([1, 2, 3] : List Int).getLast?.getD 0) < 0)) = false from by kernel_rfl]; simp)]
  rw [adoptR, if_pos (show findF Q4 [2] (⟨#[105]⟩ : ByteArray) = 0 from by kernel_rfl)]
  rfl
theorem q_put5 : (putE Q4 1 0 3).1 = Q5 := congrArg Prod.fst (putE_yes 5 (by kernel_rfl) (by kernel_rfl) (by kernel_rfl) (by kernel_rfl) (by kernel_rfl))
theorem q_put7 : (putE Q6 5 0 4).1 = Q7 := congrArg Prod.fst (putE_yes 5 (by kernel_rfl) (by kernel_rfl) (by kernel_rfl) (by kernel_rfl) (by kernel_rfl))
theorem q_put8 : (putE Q7 3 0 5).1 = Q8 := congrArg Prod.fst (putE_yes 5 (by kernel_rfl) (by kernel_rfl) (by kernel_rfl) (by kernel_rfl) (by kernel_rfl))
theorem q_move : (moveE Q6 3 5).1 = Q7 := by
  unfold moveE
  rw [belowC_eq 5 Q6 5 3 false (by kernel_rfl), show holdsF Q6 3 = true from by kernel_rfl, show holdsF Q6 5 = true from by kernel_rfl, show kidsF Q6 3 = [4] from by kernel_rfl]
  exact q_put7
theorem q_like : likeF Q5 2 = (Q6, 5, 0) := by kernel_rfl
theorem q_close : closeL Q5 [1, 2, 3] [2] 2 3 0 = (Q8, [1, 3, 5], [5], 0) := by
  unfold closeL
  rw [q_like]
  simp only
  rw [if_pos trivial, q_move, q_put8, show insF (rmF [1, 2, 3] 2) 3 5 = [1, 3, 5] from by kernel_rfl, show insAt (dropF [2] (rfind [2] 2)) (keepF [2] 2 0).toNat 5 = [5] from by kernel_rfl]
theorem q_turn : turnL Q4 [1, 2, 3] [2] false 2 3 = (Q8, [1, 3, 5], [5], 0) := by
  unfold turnL
  rw [show (betweenF [1, 2, 3] 2 3).reverse = [] from by kernel_rfl, show underF [1, 2, 3] 2 = 1 from by kernel_rfl]
  simp only [turnR]
  rw [if_pos trivial, if_pos (by decide), show placeQ Q4 [1, 2, 3] false 1 = (1, 0) from by kernel_rfl, show rfind [2] 2 = 0 from by kernel_rfl]
  simp only
  rw [q_put5]
  exact q_close
theorem q_adb : adoptL false (⟨#[98]⟩ : ByteArray) ⟨Q4, [1, 2, 3], [2]⟩ = (⟨Q8, [1, 3], []⟩, true, 0) := by
  unfold adoptL
  rw [if_neg (show ¬ (namedF Q4 (([1, 2, 3] : List Int).getLast?.getD 0) [(⟨#[98]⟩ : ByteArray)] && decide (rfind [2] (([1, 2, 3] : List Int).getLast?.getD 0) < 0)) = true from by rw [show (namedF Q4 (([1, 2, 3] : List Int).getLast?.getD 0) [(⟨#[98]⟩ : ByteArray)] && decide (rfind [2] (([1, 2, 3] : List Int).getLast?.getD 0) < 0)) = false from by kernel_rfl]; simp)]
  rw [adoptR]
  simp only
  rw [show findF Q4 [2] (⟨#[98]⟩ : ByteArray) = 2 from by kernel_rfl, show rfind [1, 2, 3] 2 = 1 from by kernel_rfl, show hasNodeF Q4 [1, 2, 3] 2 = true from by kernel_rfl, show blockF Q4 [1, 2, 3] 2 = 3 from by kernel_rfl, q_turn]
  rw [if_neg (by decide), if_neg (by decide), if_neg (by decide), if_neg (by decide)]
  simp only
  rw [if_pos trivial, adoptR]
  simp only
  rw [show findF Q8 [5] (⟨#[98]⟩ : ByteArray) = 5 from by kernel_rfl, show rfind [1, 3, 5] 5 = 2 from by kernel_rfl, show hasNodeF Q8 [1, 3, 5] 5 = true from by kernel_rfl, show blockF Q8 [1, 3, 5] 5 = 0 from by kernel_rfl]
  rw [if_neg (by decide), if_neg (by decide), if_neg (by decide), if_pos rfl, show rmF [5] 5 = [] from by kernel_rfl]
  rfl
theorem q_kids1 : kidsQ Q8 1 = [2, 3] := by kernel_rfl
theorem q_kids3 : kidsQ Q8 3 = [5] := by kernel_rfl
theorem q_len : (Q8.nodes.length : Int) - 1 = 5 := by kernel_rfl
theorem q_text : (textE Q3 3 0 (⟨#[120]⟩ : ByteArray)).2 = 0 := by kernel_rfl
end Go.Proofs.YtclflmjpdglgiaaGreat

/-
  Contracts: colanderlaw15.shown returns true, the world behind has new blocks alone; colanderlaw15.ints: are two lists the same?
-/
namespace Go.Proofs.YtclflmjpdglgiaaGreat
open Go.RowKit Mem

/-- a tree, its open elements, a list: made -/
theorem made_li (most : Int) (hm : most ≤ 5000) (w0 w : World) (hb : Below w0.heap.size w0 w) : Calls Tryz.prog 13 #[.int .i64 most] w fun e w' => ∃ tb, e = .returned (.pointer (some ⟨tb, 0, none⟩)) ∧ Below w.heap.size w w' ∧
    Calls Tryz.prog 14 #[.pointer (some ⟨tb, 0, none⟩)] w' fun e w' => ∃ sb, e = .returned (.pointer (some ⟨sb, 0, none⟩)) ∧
      Calls Tryz.prog 15 #[.pointer (some ⟨tb, 0, none⟩), .pointer (some ⟨sb, 0, none⟩)] w' fun e w' => ∃ lb, e = .returned (.pointer (some ⟨lb, 0, none⟩)) ∧ LI w0 0 tb sb lb (fun _ => False) ⟨[rootN], most, noFar⟩ [] [] false w' := by
  refine (New_ti most hm w0 w hb).mono ?_
  rintro e w1 ⟨tb, g, rfl, hT, _, _, hb1⟩
  refine ⟨tb, rfl, hb1, (stack_si hT).mono ?_⟩
  rintro e w2 ⟨sb, rfl, hS, _⟩
  refine ⟨sb, rfl, (new_li hS).mono ?_⟩
  rintro e w3 ⟨lb, rfl, hL, _⟩
  exact ⟨lb, rfl, hL⟩

set_option maxRecDepth 100000 in
set_option maxHeartbeats 8000000 in
theorem shown15_any (w : World) : Calls Tryz.prog 4 #[] w fun e w' => e = .returned (.bool true) ∧ Below w.heap.size w w' := by
  go_enter Tryz.func4, Tryz.ntmps4
  go_wp2_with fail
  refine (made_li 20 (by decide) w w (Below.refl _ _)).mono ?_
  rintro e w1 ⟨tb, rfl, _, HS⟩
  have HS' := Lib.hid HS
  clear HS
  go_wp2_with fail
  refine HS'.out.mono ?_
  rintro e w2 ⟨sb, rfl, HN⟩
  have HN' := Lib.hid HN
  clear HN HS'
  go_wp2_with fail
  refine HN'.out.mono ?_
  rintro e w3 ⟨lb, rfl, h3⟩
  have H0 := Lib.hid (Insert_li h3 (by decide) 0 (⟨#[98, 111, 100, 121]⟩ : ByteArray) [] 0 none 0 rfl (fun _ => rfl) (Nat.zero_le _) (At.nil _ _))
  rw [show (⟨[rootN], 20, noFar⟩ : TreeD) = Q0 from rfl, q_ins1] at H0
  clear h3 HN'
  go_wp2_with fail
  refine H0.out.mono ?_
  rintro e w4 ⟨rfl, h4, _⟩
  have H1 := Lib.hid (Insert_li (show LI w 0 tb sb lb (fun _ => False) Q1 [1] [] false w4 from h4) (by decide) 0 (⟨#[98]⟩ : ByteArray) [] 0 none 0 rfl (fun _ => rfl) (Nat.zero_le _) (At.nil _ _))
  rw [q_ins2] at H1
  clear h4 H0
  go_wp2_with fail
  refine H1.out.mono ?_
  rintro e w5 ⟨rfl, h5, _⟩
  have H2 := Lib.hid (Push_li (show LI w 0 tb sb lb (fun _ => False) Q2 [1, 2] [] false w5 from h5) (by decide) 2)
  rw [q_push] at H2
  clear h5 H1
  go_wp2_with fail
  refine H2.out.mono ?_
  rintro e w6 ⟨rfl, h6, _⟩
  have H3 := Lib.hid (Insert_li h6 (by decide) 0 (⟨#[112]⟩ : ByteArray) [] 0 none 0 rfl (fun _ => rfl) (Nat.zero_le _) (At.nil _ _))
  rw [q_ins3] at H3
  clear h6 H2
  go_wp2_with fail
  refine H3.out.mono ?_
  rintro e w7 ⟨rfl, h7, _⟩
  have H4 := Lib.hid (Text_li (B' := 5) (show LI w 0 tb sb lb (fun _ => False) Q3 [1, 2, 3] [2] false w7 from h7) (⟨#[120]⟩ : ByteArray) (by decide) (by decide))
  rw [q_place] at H4
  clear h7 H3
  go_wp2_with fail
  refine H4.out.mono ?_
  rintro e w8 ⟨rfl, h8, _⟩
  have H5 := Lib.hid (Adopt_li (show LI w 5 tb sb lb (fun _ => False) Q4 [1, 2, 3] [2] false w8 from h8) (⟨#[105]⟩ : ByteArray) (by decide) (by decide))
  rw [q_adi] at H5
  clear h8 H4
  go_wp2_with fail
  refine H5.out.mono ?_
  rintro e w9 ⟨rfl, h9, _⟩
  have H6 := Lib.hid (Adopt_li (show LI w 5 tb sb lb (fun _ => False) Q4 [1, 2, 3] [2] false w9 from h9) (⟨#[98]⟩ : ByteArray) (by decide) (by decide))
  rw [q_adb] at H6
  clear h9 H5
  go_wp2_with fail
  refine H6.out.mono ?_
  rintro e w10 ⟨rfl, h10, _⟩
  have H7 := Lib.hid (show LI w 5 tb sb lb (fun _ => False) Q8 [1, 3] [] false w10 from h10)
  have HK1 := Lib.hid (Kids_li H7.out 1)
  rw [q_kids1] at HK1
  clear h10 H6
  go_wp2_with fail
  refine HK1.out.mono ?_
  rintro e w11 ⟨v1, rfl, ho1, hb11⟩
  obtain ⟨a1, c1, rfl, _, _, _, hat1⟩ := own_at ho1
  have H8 := Lib.hid (H7.out.world hb11)
  have HA1 := Lib.hid hat1
  have HK3 := Lib.hid (Kids_li H8.out 3)
  rw [q_kids3] at HK3
  clear ho1 hat1 hb11 HK1 H7
  go_wp2_with fail
  refine HK3.out.mono ?_
  rintro e w12 ⟨v2, rfl, ho2, hb12⟩
  obtain ⟨a2, c2, rfl, _, _, _, hat2⟩ := own_at ho2
  have H9 := Lib.hid (H8.out.world hb12)
  obtain ⟨b1, o1, rfl, x0⟩ := (HA1.out.below hb12) 0 _ rfl
  obtain ⟨_, _, he1, x1⟩ := (HA1.out.below hb12) 1 _ rfl
  cases he1
  obtain ⟨b2, o2, rfl, y0⟩ := hat2 0 _ rfl
  rw [Nat.add_zero] at x0 y0
  have HLen := Lib.hid (Len_li H9.out)
  rw [q_len] at HLen
  have HTop := Lib.hid (STop_li H9.out)
  have HAl := Lib.hid (fun u (hu : LI w 5 tb sb lb (fun _ => False) Q8 [1, 3] [] false u) => LAll_li hu)
  clear ho2 hat2 hb12 HK3 H8 HA1
  have HAl9 := Lib.hid (HAl.out w12 H9.out)
  go_wp2_with (go_at_call 10; go_must (refine HLen.out.mono ?_; rintro e w13 ⟨rfl, rfl⟩))
  refine HTop.out.mono ?_
  rintro e w13 ⟨rfl, q, rfl⟩
  have H13 := Lib.hid (H9.out.world (stk_drewN w12 q))
  have HAl13 := Lib.hid (HAl.out _ H13.out)
  go_wp2_with fail
  refine HAl13.out.mono ?_
  rintro e w14 ⟨v3, rfl, ho3, hb14⟩
  obtain ⟨a3, c3, rfl, _, _⟩ := own_slice ho3
  have HB14 := Lib.hid (belowCall H13.out.below hb14)
  clear ho3 hb14
  go_wp2_with fail
  go_ret
  exact ⟨rfl, HB14.out⟩
end Go.Proofs.YtclflmjpdglgiaaGreat

/-
  Contracts: colanderlaw15.begun: a list over a tree with nothing in it, and the document's; colanderlaw15.ints: are two lists the same?
-/
namespace Go.Proofs.YtclflmjpdglgiaaGreat
open Go.RowKit Mem

theorem bare14_any (most : Int) (w : World) : Calls Tryz.prog 55 #[.int .i64 most] w fun e w' => ∃ rb, e = .returned (.pointer (some ⟨rb, 0, none⟩)) ∧ Below w.heap.size w w' := by
  go_enter Tryz.func55, Tryz.ntmps55
  go_wp2
  go_ret
  exact ⟨_, rfl, (((Below.refl w.heap.size w).alloc (Nat.le_refl _) _).alloc (by simp) _).alloc (by simp; omega) _⟩
theorem bare15_any (most : Int) (w : World) : Calls Tryz.prog 22 #[.int .i64 most] w fun e w' => ∃ rb, e = .returned (.pointer (some ⟨rb, 0, none⟩)) ∧ Below w.heap.size w w' := by
  have HB := Lib.hid (bare14_any most w)
  go_enter Tryz.func22, Tryz.ntmps22
  go_wp2_with fail
  refine HB.out.mono ?_
  rintro e w1 ⟨rb, rfl, hb1⟩
  have H1 := Lib.hid hb1
  have hs := hb1.size
  clear hb1
  go_wp2_with fail
  go_ret
  exact ⟨_, rfl, (H1.out.alloc hs _).alloc (by simp; omega) _⟩

/-- a law's world: tree, open elements, list -/
def WS (xb tb sb lb : Nat) (w : World) : Prop := ∃ v, Row w xb [.pointer (some ⟨tb, 0, none⟩), .pointer (some ⟨sb, 0, none⟩), .pointer (some ⟨lb, 0, none⟩), v]
theorem WS.kept {xb tb sb lb : Nat} {w0 w w' : World} {ex : Nat → Prop} (h : WS xb tb sb lb w) (hx : ex xb) (hk : Keeps (Own w0 ex) w w') : WS xb tb sb lb w' := by
  obtain ⟨v, h0⟩ := h
  exact ⟨v, h0.kept (hk.block xb h0.lt (fun h => h.2 hx))⟩
theorem WS.below {xb tb sb lb : Nat} {w w' : World} (h : WS xb tb sb lb w) (hb : Below w.heap.size w w') : WS xb tb sb lb w' :=
  h.kept (w0 := w) (ex := fun _ => True) trivial (Keeps.ofBelow hb)
theorem WS.cells {xb tb sb lb : Nat} {w : World} (h : WS xb tb sb lb w) : w.cell? ⟨xb, 0, none⟩ = some (.pointer (some ⟨tb, 0, none⟩)) ∧ w.cell? ⟨xb, 1, none⟩ = some (.pointer (some ⟨sb, 0, none⟩)) ∧ w.cell? ⟨xb, 2, none⟩ = some (.pointer (some ⟨lb, 0, none⟩)) := by
  obtain ⟨v, h0⟩ := h
  exact ⟨h0.cell (j := 0) rfl, h0.cell (j := 1) rfl, h0.cell (j := 2) rfl⟩

theorem begun_any (most : Int) (hm : most ≤ 5000) (w0 w : World) (hb : Below w0.heap.size w0 w) : Calls Tryz.prog 5 #[.int .i64 most] w fun e w' => ∃ xb tb sb lb, e = .returned (.pointer (some ⟨xb, 0, none⟩)) ∧ LI w0 0 tb sb lb (fun k => k = xb) ⟨[rootN], most, noFar⟩ [] [] false w' ∧ WS xb tb sb lb w' := by
  have HT := Lib.hid (made_li most hm w0 w hb)
  go_enter Tryz.func5, Tryz.ntmps5
  go_wp2_with fail
  refine HT.out.mono ?_
  rintro e w1 ⟨tb, rfl, _, HS⟩
  have HS' := Lib.hid HS
  clear HS HT
  go_wp2_with fail
  refine HS'.out.mono ?_
  rintro e w2 ⟨sb, rfl, HN⟩
  have HN' := Lib.hid HN
  clear HN HS'
  go_wp2_with fail
  refine HN'.out.mono ?_
  rintro e w3 ⟨lb, rfl, h3⟩
  have H3 := Lib.hid h3
  clear h3 HN'
  have HR := Lib.hid (bare15_any most w3)
  go_wp2_with fail
  refine HR.out.mono ?_
  rintro e w4 ⟨rb, rfl, hb4⟩
  have H4 := Lib.hid (H3.out.world hb4)
  clear H3 HR hb4
  go_wp2_with fail
  go_ret
  refine ⟨_, tb, sb, lb, rfl, H4.out.foreign (F := fun _ => False) (Keeps.ofBelow ((Below.refl _ _).alloc (Nat.le_refl _) _)) (fun _ h => h.elim) (fun k hk => ?_), _, Row.alloc _ _ _⟩
  subst hk
  exact ⟨.inr (Nat.le_refl _), by simp⟩

theorem ints_any (l r : List Int) (a a' : Option Addr) (c c' : Nat) (w : World) (hl : l.length ≤ maxLen) (ha : At w a (intsV l)) (ha' : At w a' (intsV r)) :
    Calls Tryz.prog 12 #[.slice a l.length c, .slice a' r.length c'] w fun e w' => e = .returned (.bool (decide (l = r))) ∧ ∃ n, w' = w.drewN n := by
  have HA := Lib.hid ha
  have HA' := Lib.hid ha'
  clear ha ha'
  unfold maxLen at hl
  by_cases hlen : l.length = r.length
  · have h0 : ((l.length : Int) != (r.length : Int)) = false := by simp [hlen]
    have HL := Lib.hid hlen
    clear hlen
    go_enter Tryz.func12, Tryz.ntmps12
    go_wp2
    clear h0
    go_loopw [5] (fun i wr => ∃ k : Nat, k ≤ l.length ∧ i = .int .i64 k ∧ (∃ n, wr = w.drewN n) ∧ l.take k = r.take k) (fun i _ => l.length - (intOf i).toNat)
    case atStart => exact ⟨0, Nat.zero_le _, rfl, ⟨0, rfl⟩, rfl⟩
    case round =>
      obtain ⟨k, hk, rfl, ⟨n, rfl⟩, hv⟩ := hrel
      have HV := Lib.hid hv
      clear hv
      by_cases hlt : k < l.length
      · have hlt' : k < r.length := by have := HL.out; omega
        obtain ⟨b, o, rfl, h1⟩ := HA.out k _ (intsV_get l k hlt)
        obtain ⟨b', o', rfl, h1'⟩ := HA'.out k _ (intsV_get r k hlt')
        have HX := Lib.hid (rfl : l[k] = l[k])
        have HY := Lib.hid (rfl : r[k] = r[k])
        have HT := Lib.hid (show l.take (k + 1) = l.take k ++ [l[k]] from List.take_succ_eq_append_getElem hlt)
        have HT' := Lib.hid (show r.take (k + 1) = r.take k ++ [r[k]] from List.take_succ_eq_append_getElem hlt')
        have HN := Lib.hid (fun h : l = r => show l[k] = r[k] by subst h; rfl)
        generalize l[k] = x at *
        generalize r[k] = y at *
        clear HX HY
        by_cases he : x = y
        · subst he
          go_wp2
          go_quiet (fail)
          go_wp2
          go_roundw
          case rel => exact ⟨k + 1, by omega, by go_num, (by first | exact ⟨_, rfl⟩ | exact ⟨_, drewN_two _ _ _⟩), by rw [HT.out, HT'.out, HV.out]⟩
          case measure => simp [intOf]; omega
        · have HE := Lib.hid he
          have hne : (x != y) = true := by simpa using he
          clear he
          go_wp2
          go_quiet (fail)
          go_wp2
          go_ret
          exact ⟨ret_bool (by simpa using fun h => HE.out (HN.out h)), (by first | exact ⟨_, rfl⟩ | exact ⟨_, drewN_two _ _ _⟩)⟩
      · go_wp2
        go_ret
        exact ⟨ret_bool (by have h1 := HV.out; have h2 := HL.out; rw [List.take_of_length_le (by omega), List.take_of_length_le (by omega)] at h1; simp [h1]), _, rfl⟩
  · have h0 : ((l.length : Int) != (r.length : Int)) = true := by simp; omega
    have HL := Lib.hid hlen
    clear hlen
    go_enter Tryz.func12, Tryz.ntmps12
    go_wp2
    go_ret
    exact ⟨ret_bool (by simpa using fun h : l = r => HL.out (by rw [h])), 0, rfl⟩
end Go.Proofs.YtclflmjpdglgiaaGreat
