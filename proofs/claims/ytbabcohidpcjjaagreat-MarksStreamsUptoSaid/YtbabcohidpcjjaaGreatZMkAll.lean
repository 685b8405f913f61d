import Derived.Test.YtbabcohidpcjjaaGreatZStep
import Derived.Test.YtbabcohidpcjjaaGreatZRefD
import Derived.Test.YtbabcohidpcjjaaGreatZMem
import Derived.Test.YtbabcohidpcjjaaGreatZSpec
/-
  How much text the marks of a text hold: plain Lean, no Go.
-/
namespace Go.Proofs.YtbabcohidpcjjaaGreat
open Mem

theorem textF_room (m : MkM) : ∀ (n : Nat) (s : Str), s.length ≤ n → (textF m s).1.length + 2 * (textF m s).2.1.length ≤ 2 * s.length := by
  intro n
  induction n with
  | zero =>
    intro s hs
    obtain rfl : s = [] := List.eq_nil_of_length_eq_zero (by omega)
    rw [textF]
    exact Nat.le_refl _
  | succ n ih =>
    intro s hs
    cases s with
    | nil => rw [textF]; exact Nat.le_refl _
    | cons c r =>
      simp only [List.length_cons] at hs
      have ih0 := ih r (by omega)
      rw [textF]
      split
      · split
        · simp only [List.length_cons]; omega
        · simp only [List.length_cons, List.length_nil]; omega
      · split
        · split
          · simp only [List.length_cons, List.length_nil]; omega
          · have ihk := ih (r.drop ((takeF (c :: r) false).2 - 1)) (by rw [List.length_drop]; omega)
            rw [List.length_drop] at ihk
            have hle := takeF_le (c :: r) false
            simp only [List.length_cons] at hle
            by_cases h0 : (takeF (c :: r) false).2 = 0
            · rw [if_pos h0, List.length_append]
              simp only [List.length_cons, List.length_nil]
              rw [h0] at ihk ⊢
              simp only [Nat.zero_sub, Nat.sub_zero] at ihk ⊢
              omega
            · rw [if_neg h0, List.length_append]
              have h1 := takeF_len (c :: r) false h0
              simp only [List.length_cons]
              omega
        · simp only [List.length_cons]; omega
theorem parseF_text (s : Str) (e : Bool) : (parseF s e).1.text = [] := by
  unfold parseF
  repeat' split
  all_goals rfl
theorem tagF_text (m : MkM) (e : Bool) : (tagF m e).1.text = [] := by
  unfold tagF
  simp only
  repeat' split
  all_goals first | rfl | exact parseF_text _ _
theorem oneF_room {m : MkM} : (oneF m).1.text.length + 2 * (oneF m).2.2.2.buf.length ≤ 2 * m.buf.length := by
  have hk := (oneF_kept m).2
  have he : (oneF m).1.text = [] → (oneF m).1.text.length + 2 * (oneF m).2.2.2.buf.length ≤ 2 * m.buf.length := fun h => by
    rw [h, List.length_nil]; omega
  by_cases hp : m.pass = 0
  · have e1 : oneF m = stepF m := by unfold oneF; rw [if_pos hp]
    rw [e1] at hk he ⊢
    have hr := textF_room m _ m.buf (Nat.le_refl _)
    unfold stepF at he ⊢
    simp only at he ⊢
    by_cases h1 : (textF m m.buf).1 ≠ []
    · rw [if_pos h1]
      exact hr
    · rw [if_neg h1] at he ⊢
      refine he ?_
      repeat' split
      all_goals first | rfl | exact tagF_text _ _
  · have e1 : oneF m = passF m := by unfold oneF; rw [if_neg hp]
    rw [e1] at hk he ⊢
    have hd : ∀ (m : MkM) n, (doneF m n).1.text = [] := fun _ _ => rfl
    have hl : ∀ m' : MkM, (comLater m').1.text = [] := fun m' => by
      unfold comLater
      simp only
      repeat' split
      all_goals rfl
    by_cases h1 : m.pass = 1
    · refine he ?_
      unfold passF
      rw [if_pos h1]
      unfold comF
      repeat' split
      all_goals first | rfl | exact hl _
    · by_cases h2 : m.pass = 2
      · refine he ?_
        unfold passF
        rw [if_neg h1, if_pos h2]
        repeat' split
        all_goals rfl
      · have e2 : passF m = cdF m := by unfold passF; rw [if_neg h1, if_neg h2]
        rw [e2]
        unfold cdF
        simp only
        split
        · show (m.buf.take _).length + 2 * (m.buf.drop _).length ≤ _
          rw [List.length_take, List.length_drop]
          omega
        · split
          · show m.buf.length + 2 * 0 ≤ _
            omega
          · show (m.buf.take _).length + 2 * (m.buf.drop _).length ≤ _
            rw [List.length_take, List.length_drop]
            omega
theorem readF_room : ∀ (n : Nat) (m : MkM), doM m ≤ n → ∀ x m1, readF m = (some x, m1) → x.text.length + 2 * m1.buf.length ≤ 2 * m.buf.length := by
  intro n
  induction n using Nat.strongRecOn with
  | _ n ih =>
    intro m hm x m1 h
    by_cases he : m.err = 0
    · cases ht : (oneF m).2.1
      · cases hs : (oneF m).2.2.1
        · rw [readF_go he ht hs] at h
          have hl := one_less m (.inr hs)
          have := ih (doM (oneF m).2.2.2) (by omega) _ (Nat.le_refl _) x m1 h
          have := (oneF_kept m).2
          omega
        · rw [readF_stop he ht hs] at h; cases h
      · rw [readF_told he ht] at h
        cases h
        exact oneF_room
    · rw [readF_err he] at h; cases h
theorem readF_kept' : ∀ (n : Nat) (m : MkM), doM m ≤ n → (readF m).2.name = m.name ∧ (readF m).2.buf.length ≤ m.buf.length := by
  intro n
  induction n using Nat.strongRecOn with
  | _ n ih =>
    intro m hm
    by_cases he : m.err = 0
    · have hk := oneF_kept m
      cases ht : (oneF m).2.1
      · cases hs : (oneF m).2.2.1
        · rw [readF_go he ht hs]
          have hl := one_less m (.inr hs)
          have := ih (doM (oneF m).2.2.2) (by omega) _ (Nat.le_refl _)
          exact ⟨this.1.trans hk.1, Nat.le_trans this.2 hk.2⟩
        · rw [readF_stop he ht hs]; exact hk
      · rw [readF_told he ht]; exact hk
    · rw [readF_err he]; exact ⟨rfl, Nat.le_refl _⟩
/-- how long the texts are together -/
def tlen : List MarkD → Nat
  | [] => 0
  | x :: r => x.text.length + tlen r
theorem tlen_append : ∀ a b : List MarkD, tlen (a ++ b) = tlen a + tlen b
  | [], b => by rw [List.nil_append, tlen]; omega
  | x :: a, b => by rw [List.cons_append, tlen, tlen, tlen_append a b]; omega
theorem drainF_room : ∀ (n : Nat) (m : MkM), doM m ≤ n → m.name.length ≤ 4294967280 → tlen (drainF m).1 + 2 * (drainF m).2.buf.length ≤ 2 * m.buf.length ∧ (drainF m).1.length ≤ doM m ∧ (drainF m).2.name.length ≤ 4294967280 := by
  intro n
  induction n using Nat.strongRecOn with
  | _ n ih =>
    intro m hm hn
    have hk := readF_kept' _ m (Nat.le_refl _)
    rcases h : readF m with ⟨_ | x, m1⟩
    · rw [h] at hk
      simp only at hk
      rw [drainF_none h]
      exact ⟨by simp only [tlen]; omega, Nat.zero_le _, by rw [hk.1]; exact hn⟩
    · rw [h] at hk
      simp only at hk
      rw [drainF_some h]
      have h1 := readF_room _ m (Nat.le_refl _) x m1 h
      have h2 := read_less _ m (Nat.le_refl _) x m1 h
      have h3 := readF_name _ m (Nat.le_refl _) x m1 h
      have h4 := switch_name m1 x (by rw [hk.1]; exact hn) h3.2
      have h5 := doM_switch m1 x
      have := ih (doM m1) (by omega) (switchF m1 x) (by omega) h4.1
      rw [h4.2, h5] at this
      simp only [tlen, List.length_cons]
      omega
end Go.Proofs.YtbabcohidpcjjaaGreat

/-
  Marks in memory; contract: marks' stream: drain: all marks that are certain.
-/
namespace Go.Proofs.YtbabcohidpcjjaaGreat
open Go.RowKit Mem

/-- marks, each with its attributes' slice -/
abbrev MS := List (MarkD × Value)
def markC (p : MarkD × Value) : List Value := [.int .i64 p.1.kind, .string (strB p.1.name), p.2, .bool p.1.self, .string (strB p.1.text)]
def marksV (L : MS) : List Value := L.flatMap markC
theorem marksV_length : ∀ L : MS, (marksV L).length = L.length * 5
  | [] => rfl
  | p :: L => by
    have := marksV_length L
    unfold marksV at this ⊢
    rw [List.flatMap_cons, List.length_append, this, List.length_cons]
    show 5 + _ = _
    omega
theorem marksV_push (L : MS) (p : MarkD × Value) : marksV (L ++ [p]) = marksV L ++ markC p := by
  unfold marksV
  rw [List.flatMap_append]
  simp
/-- each mark's attributes are the callee's own -/
def AtsOwn (base : Nat) (L : MS) (w : World) : Prop := ∀ p ∈ L, w.ownsRow base 56 2 p.2 p.1.attrs.length (pairsV (attP p.1.attrs))
theorem AtsOwn.base {base base' : Nat} {L : MS} {w : World} (h : AtsOwn base L w) (hb : base' ≤ base) : AtsOwn base' L w := fun p hp => own_base (h p hp) hb
theorem AtsOwn.keeps {base b : Nat} {L : MS} {u w' : World} (h : AtsOwn base L u) (hb : b < base) (hk : Keeps (Only b) u w') : AtsOwn base L w' := fun p hp =>
  own_kept (h p hp) fun g hg => hk.block g ((h p hp).lt g hg).2 (by show ¬ g = b; have := ((h p hp).lt g hg).1; omega)
theorem own_diff {w : World} {base base' : Nat} {t t' : TypeId} {size size' : Nat} {v v' : Value} {n n' : Nat} {xs xs' : List Value} (h : w.ownsRow base t size v n xs) (h' : w.ownsRow base' t' size' v' n' xs') (hne : t ≠ t') : ∀ g, v.ownBlock = some g → v'.ownBlock ≠ some g := by
  intro g hg hg'
  rcases h.2 with ⟨rfl, -⟩ | ⟨k, cap, cur, rfl, -, hk, -⟩
  · cases hg
  · rcases h'.2 with ⟨rfl, -⟩ | ⟨k', cap', cur', rfl, -, hk', -⟩
    · cases hg'
    · simp only [Value.ownBlock, Option.some.injEq] at hg hg'
      rw [hg] at hk
      rw [hg'] at hk'
      rw [hk] at hk'
      simp only [Option.some.injEq, Obj.cells.injEq] at hk'
      exact hne hk'.2.1
theorem AtsOwn.grown {base base' : Nat} {L : MS} {u w' : World} {v : Value} {n : Nat} {xs : List Value} (h : AtsOwn base L u) (hr : u.ownsRow base' 46 5 v n xs) (hg : u.grownBy w' v.ownBlock) : AtsOwn base L w' := fun p hp =>
  own_kept (h p hp) fun g hgo => hg.block g ((h p hp).lt g hgo).2 fun e => own_diff (h p hp) hr (by decide) g hgo e.symm
theorem info_mark : (Tryz.prog.info? 46).map (fun i => (i.zero, i.size, i.bytes)) = some (some (.agg zeroMark), 5, 72) := by kernel_rfl
theorem markC_one (x : MarkD) (a : Option Addr) (n c : Nat) : ∀ u ∈ markC (x, .slice a n c), u.oneCell' = true := by
  intro u h
  simp only [markC, List.mem_cons, List.not_mem_nil, or_false] at h
  rcases h with rfl | rfl | rfl | rfl | rfl <;> rfl
theorem readF_kept : ∀ (n : Nat) (m : MkM), doM m ≤ n → (readF m).2.name = m.name ∧ (readF m).2.buf.length ≤ m.buf.length := by
  intro n
  induction n using Nat.strongRecOn with
  | _ n ih =>
    intro m hm
    by_cases he : m.err = 0
    · have hk := oneF_kept m
      cases ht : (oneF m).2.1
      · cases hs : (oneF m).2.2.1
        · rw [readF_go he ht hs]
          have hl := one_less m (.inr hs)
          have := ih (doM (oneF m).2.2.2) (by omega) _ (Nat.le_refl _)
          exact ⟨this.1.trans hk.1, Nat.le_trans this.2 hk.2⟩
        · rw [readF_stop he ht hs]; exact hk
      · rw [readF_told he ht]; exact hk
    · rw [readF_err he]; exact ⟨rfl, Nat.le_refl _⟩
theorem keeps_grow {F : Nat → Prop} {w u u' : World} {row : Option Nat} (h : Keeps F w u) (hg : u.grownBy u' row) (hr : ∀ k, row = some k → w.heap.size ≤ k) : Keeps F w u' :=
  ⟨hg.os.trans h.os, hg.tape.trans h.tape, hg.output.trans h.output, Nat.le_trans h.size hg.size, fun k hk hF => (hg.block k (Nat.lt_of_lt_of_le hk h.size) fun e => by have := hr k e.symm; omega).trans (h.block k hk hF)⟩
/-- what drain has told -/
def DrainAt (base : Nat) (o : List MarkD × MkM) (r : Ending) (w' : World) : Prop :=
  (o.2.err ≠ 0 ∧ r = .returned (.tuple #[.slice none 0 0, .int .i64 o.2.err])) ∨
  (o.2.err = 0 ∧ ∃ (v : Value) (L : MS), r = .returned (.tuple #[v, .int .i64 0]) ∧ L.map (·.1) = o.1 ∧ w'.ownsRow base 46 5 v L.length (marksV L) ∧ AtsOwn base L w')

set_option maxRecDepth 100000 in
set_option maxHeartbeats 4000000 in
theorem drain_any (m : MkM) (b : Nat) (y : Int) (w : World) (hr : Row w b (machV m)) (hm : maxAt w y) (hl : m.buf.length ≤ 4294967280) (hn : m.name.length ≤ 4294967280) :
    Calls Tryz.prog 27 #[.pointer (some ⟨b, 0, none⟩)] w fun r w' => DrainAt w.heap.size (drainF m) r w' ∧ Row w' b (machV (drainF m).2) ∧ Keeps (Only b) w w' := by
  have hbw := hr.lt
  obtain ⟨o, ho⟩ : ∃ o, o = drainF m := ⟨_, rfl⟩
  rw [← ho]
  have hdm := doM_le m
  have HM0 := Lib.hid hm
  have HR0 := Lib.hid hr
  have HHO := Lib.hid ho
  obtain ⟨i0', hi, hi0, hi1, hi2⟩ := info_parts info_mark
  clear hr hm ho
  go_enter Tryz.func27, Tryz.ntmps27
  go_wp2_with fail
  go_loopg [4] (doM m) (fun g v wr => ∃ (m' : MkM) (L : MS), doM m' ≤ g ∧ L.length + doM m' ≤ doM m ∧ (L.map (·.1) ++ (drainF m').1, (drainF m').2) = o ∧ m'.name.length ≤ 4294967280 ∧ m'.buf.length ≤ 4294967280 ∧ Row wr b (machV m') ∧ maxAt wr y ∧ Keeps (Only b) w wr ∧ wr.ownsRow w.heap.size 46 5 v L.length (marksV L) ∧ AtsOwn w.heap.size L wr)
  case atStart => exact ⟨m, [], Nat.le_refl _, by simp, by rw [HHO.out]; rfl, hn, hl, HR0.out, HM0.out, Keeps.refl _ _, World.ownsRow_nil _ _ _ _, fun p hp => by cases hp⟩
  case round =>
    obtain ⟨m', L, hg, hgl, hv, hnm, hbl, hrr, hmx, hkk, hro, hao⟩ := hrel
    have HV := Lib.hid hv
    have HRr := Lib.hid hrr
    have HMr := Lib.hid hmx
    have HKr := Lib.hid hkk
    have HOr := Lib.hid hro
    have HAr := Lib.hid hao
    have hzr := hkk.size
    clear hv hrr hmx hkk hro hao
    go_wp2_with fail
    refine (read_any m' b y wr HRr.out HMr.out hbl hnm).mono ?_
    rintro r W1 ⟨hra, r1, k1⟩
    obtain ⟨q, hq⟩ : ∃ q, q = readF m' := ⟨_, rfl⟩
    rw [← hq] at hra r1
    obtain ⟨ox, m1⟩ := q
    have hkt := readF_kept _ m' (Nat.le_refl _)
    rw [← hq] at hkt
    simp only at hkt
    have HZN := Lib.hid (readF_name _ m' (Nat.le_refl _))
    have HRL := Lib.hid (read_less _ m' (Nat.le_refl _))
    rw [← hq] at HZN HRL
    have HM1 := Lib.hid (max_keeps HMr.out HRr.out k1)
    have HR1 := Lib.hid r1
    have HK1 := Lib.hid (HKr.out.trans k1)
    have HO1 := Lib.hid (own_kept HOr.out fun g hgo => k1.block g (HOr.out.lt g hgo).2 (by show ¬ g = b; have := (HOr.out.lt g hgo).1; omega))
    have HA1 := Lib.hid (HAr.out.keeps hbw k1)
    have hz1 := Nat.le_trans hzr k1.size
    have hszW := k1.size
    obtain ⟨-, -, -, -, -, -, -, -, -, hc9⟩ := mach_row r1
    have hbW := r1.lt
    have HQ := Lib.hid hq
    clear k1 r1
    cases ox with
    | none =>
      have HO := Lib.hid (show (L.map (·.1), m1) = o from by rw [← HV.out, drainF_none HQ.out.symm, List.append_nil])
      have hra' : r = .returned (.tuple #[markV (.slice none 0 0) (bareM 0), .bool false]) := hra
      subst hra'
      clear hra hq
      have HR2 : Hid (∀ ob, Row (W1.alloc ob) b (machV m1)) := fun ob => HR1.out.kept (heap_alloc_old _ _ hbW)
      dsimp only [markV]
      by_cases he : m1.err = 0
      · rw [show ({ m1 with err := m1.err } : MkM) = m1 from rfl] at HR1
        have heb : (m1.err != 0) = false := by rw [he]; rfl
        go_wp2_with fail
        go_ret2
        rw [← HO.out]
        refine ⟨.inr ⟨he, _, L, rfl, rfl, HO1.out.alloc _, fun p hp => (HA1.out p hp).alloc _⟩, HR2.out _, HK1.out.alloc _⟩
      · have heb : (m1.err != 0) = true := by simpa using he
        go_wp2_with fail
        go_region
        go_wp2_with fail
        go_ret2
        rw [← HO.out]
        exact ⟨.inl ⟨he, rfl⟩, row_drew (HR2.out _), (HK1.out.alloc _).drew⟩
    | some x =>
      obtain ⟨he, hxn⟩ := HZN.out x m1 rfl
      have hless : doM m1 < doM m' := HRL.out x m1 rfl
      have hcount : L.length + 1 + doM m1 ≤ doM m := by omega
      have hgk : doM m1 < gk := by omega
      obtain ⟨sl, hrr, hown⟩ : ∃ sl, r = .returned (.tuple #[markV sl x, .bool true]) ∧ W1.ownsRow wr.heap.size 56 2 sl x.attrs.length (pairsV (attP x.attrs)) := hra
      obtain ⟨a, c, hsl, -⟩ := own_at hown
      subst hsl
      subst hrr
      have HOW := Lib.hid (own_base hown hzr)
      have HVS := Lib.hid (show (L.map (·.1) ++ (x :: (drainF (switchF m1 x)).1), (drainF (switchF m1 x)).2) = o from by rw [← HV.out, drainF_some HQ.out.symm])
      have hbl1 : m1.buf.length ≤ 4294967280 := Nat.le_trans hkt.2 hbl
      have hnm1 : m1.name.length ≤ 4294967280 := by rw [hkt.1]; exact hnm
      rw [he] at hc9
      clear hq hown
      obtain ⟨X, hX⟩ : ∃ X, X = W1.heap.size := ⟨_, rfl⟩
      obtain ⟨W2, hW2⟩ : ∃ W2, W2 = W1.alloc (.cells #[.int .i64 x.kind, .string (strB x.name), .slice a x.attrs.length c, .bool x.self, .string (strB x.text)] 46) := ⟨_, rfl⟩
      have HR2 := Lib.hid (show Row W2 b (machV m1) from hW2 ▸ HR1.out.kept (heap_alloc_old _ _ hbW))
      have HX2 : Hid (W2.heap[X]? = some (.cells #[.int .i64 x.kind, .string (strB x.name), .slice a x.attrs.length c, .bool x.self, .string (strB x.text)] 46 (0, 0))) := by show _ = _; rw [hW2, hX]; exact heap_alloc_new _ _
      have HK2 := Lib.hid (show Keeps (Only b) w W2 from hW2 ▸ HK1.out.alloc _)
      have HO2 := Lib.hid (show W2.ownsRow w.heap.size 46 5 u4 L.length (marksV L) from hW2 ▸ HO1.out.alloc _)
      have HA2 := Lib.hid (show AtsOwn w.heap.size (L ++ [(x, .slice a x.attrs.length c)]) W2 from by
        rw [hW2]
        intro p hp
        rcases List.mem_append.1 hp with hp | hp
        · exact (HA1.out p hp).alloc _
        · rw [List.mem_singleton.1 hp]; exact HOW.out.alloc _)
      have HM2 := Lib.hid (show maxAt W2 y from by rw [hW2]; exact cell_later ((Below.refl W1.heap.size W1).alloc (Nat.le_refl _) _) HM1.out)
      have HW2 := Lib.hid hW2
      have hz2 : w.heap.size ≤ W2.heap.size := by rw [hW2]; simp; omega
      have hXb : X ≠ b := by omega
      have hXz : X < W2.heap.size := by rw [hW2, hX]; simp
      have hx : (W2.cell? ⟨X, 0, none⟩ = some (.int .i64 x.kind) ∧ W2.cell? ⟨X, 1, none⟩ = some (.string (strB x.name)) ∧ W2.cell? ⟨X, 2, none⟩ = some (.slice a x.attrs.length c) ∧ W2.cell? ⟨X, 3, none⟩ = some (.bool x.self) ∧ W2.cell? ⟨X, 4, none⟩ = some (.string (strB x.text))) := by
        refine ⟨?_, ?_, ?_, ?_, ?_⟩ <;> simp [World.cell?, HX2.out]
      obtain ⟨x0, x1, x2, x3, x4⟩ := hx
      clear hW2
      dsimp only [markV]
      go_wp2_with fail
      rw [← HW2.out, ← hX]
      clear HW2 hX hc9
      refine region_end 4 (by kernel_rfl) (by kernel_rfl) rfl ?_
      simp only [List.take_succ_cons, List.take_zero]
      repeat still_step
      refine wpStill_nil ?_
      intro K hK
      go_simp
      refine (switches_any m1 b x (.slice a x.attrs.length c) W2.drew (row_drew HR2.out) (by omega)).mono ?_
      rintro e w6 ⟨rfl, r6, k6⟩
      dsimp only
      refine hK _ _ ?_
      clear hK K
      simp only [List.drop_succ_cons, List.drop_zero]
      repeat still_step
      refine wpStill_nil ?_
      have hk26 : Keeps (Only b) W2 w6 := ((Keeps.refl (Only b) W2).drew).trans k6
      have HX6 := Lib.hid (only_zero HX2.out hk26 hXz hXb)
      have HR6 := Lib.hid r6
      have HK6 := Lib.hid (HK2.out.trans hk26)
      have HM6 := Lib.hid (max_keeps HM2.out HR2.out hk26)
      have HO6 := Lib.hid (own_kept HO2.out fun g hgo => hk26.block g (HO2.out.lt g hgo).2 (by show ¬ g = b; have := (HO2.out.lt g hgo).1; omega))
      have HA6 := Lib.hid (HA2.out.keeps hbw hk26)
      have hz6 := Nat.le_trans hz2 hk26.size
      have hML := lt_of_cell HM0.out
      have hx : (w6.cell? ⟨X, 0, none⟩ = some (.int .i64 x.kind) ∧ w6.cell? ⟨X, 1, none⟩ = some (.string (strB x.name)) ∧ w6.cell? ⟨X, 2, none⟩ = some (.slice a x.attrs.length c) ∧ w6.cell? ⟨X, 3, none⟩ = some (.bool x.self) ∧ w6.cell? ⟨X, 4, none⟩ = some (.string (strB x.text))) := by
        refine ⟨?_, ?_, ?_, ?_, ?_⟩ <;> simp [World.cell?, HX6.out]
      clear x0 x1 x2 x3 x4 k6 r6 hk26
      obtain ⟨x0, x1, x2, x3, x4⟩ := hx
      have HN := Lib.hid ((at_alloc (w := w6) (cur := #[.int .i64 x.kind, .string (strB x.name), .slice a x.attrs.length c, .bool x.self, .string (strB x.text)]) (e := 46) (xs := markC (x, .slice a x.attrs.length c)) rfl rfl).news)
      have HO7 := Lib.hid (HO6.out.alloc (.cells #[.int .i64 x.kind, .string (strB x.name), .slice a x.attrs.length c, .bool x.self, .string (strB x.text)] 46))
      have hz7 : w.heap.size ≤ (w6.alloc (.cells #[.int .i64 x.kind, .string (strB x.name), .slice a x.attrs.length c, .bool x.self, .string (strB x.text)] 46)).heap.size := by simp; omega
      have HR7 := Lib.hid (HR6.out.kept (heap_alloc_old w6 (.cells #[.int .i64 x.kind, .string (strB x.name), .slice a x.attrs.length c, .bool x.self, .string (strB x.text)] 46) HR6.out.lt))
      have HK7 := Lib.hid (HK6.out.alloc (.cells #[.int .i64 x.kind, .string (strB x.name), .slice a x.attrs.length c, .bool x.self, .string (strB x.text)] 46))
      have HA7 := Lib.hid (show AtsOwn w.heap.size (L ++ [(x, .slice a x.attrs.length c)]) (w6.alloc (.cells #[.int .i64 x.kind, .string (strB x.name), .slice a x.attrs.length c, .bool x.self, .string (strB x.text)] 46)) from fun p hp => (HA6.out p hp).alloc _)
      have HM7 := Lib.hid (show maxAt (w6.alloc (.cells #[.int .i64 x.kind, .string (strB x.name), .slice a x.attrs.length c, .bool x.self, .string (strB x.text)] 46)) y from cell_later ((Below.refl w6.heap.size w6).alloc (Nat.le_refl _) _) HM6.out)
      have hb1 : L.length + 1 ≤ maxLen := by unfold maxLen; omega
      have hb2 : (L.length + 1) * 72 ≤ 140737488355328 := by omega
      clear HK2 HO2 HA2 HM2 HX2 HR2
      go_wp2_with (at_builtin; go_must (refine wpList_append_own _ rfl _ _ 23 rfl w.heap.size 46 i0' _ 5 72 Tryz.underlying23 hi hi0 hi1 hi2 rfl (by decide) _ L.length _ rfl HO7.out _ 1 1 (markC (x, .slice a x.attrs.length c)) rfl rfl HN.out (markC_one x a _ c) hb1 hb2 hz7 ?_; intro v8 w8 hown8 hgr8 _; have HO8 := Lib.hid hown8; have HG8 := Lib.hid hgr8; clear hown8 hgr8))
      have hsn := switch_name m1 x hnm1 hxn
      go_roundg (doM (switchF m1 x))
      case measure => rw [doM_switch]; exact hgk
      case rel =>
        refine ⟨switchF m1 x, L ++ [(x, .slice a x.attrs.length c)], Nat.le_refl _, by rw [List.length_append, doM_switch]; exact hcount, ?_, hsn.1, by rw [hsn.2]; exact hbl1, ?_, ?_, keeps_grow HK7.out HG8.out (fun k hk => (HO7.out.lt k hk).1), ?_, HA7.out.grown HO7.out HG8.out⟩
        · rw [← HVS.out, List.map_append, List.append_assoc]; rfl
        · exact HR7.out.kept (HG8.out.block b HR7.out.lt fun e => absurd (HO7.out.lt b e.symm).1 (Nat.not_le_of_lt hbw))
        · have h := HM7.out
          unfold maxAt World.cell? at h ⊢
          rw [HG8.out.block _ (by have := HK7.out.size; exact Nat.lt_of_lt_of_le hML this) fun e => absurd (HO7.out.lt _ e.symm).1 (Nat.not_le_of_lt hML)]
          exact h
        · rw [List.length_append, marksV_push]; exact HO8.out
end Go.Proofs.YtbabcohidpcjjaaGreat

/-
  Contracts: marks' stream: Open, Feed, Close.
-/
namespace Go.Proofs.YtbabcohidpcjjaaGreat
open Go.RowKit Mem

/-- the text goes on -/
def feedF (m : MkM) (s : Str) : MkM := if m.err = 0 then { m with buf := m.buf ++ putF m.cr s, cr := putC m.cr s } else m
theorem DrainAt.base {base base' : Nat} {o : List MarkD × MkM} {r : Ending} {w' : World} (h : DrainAt base o r w') (hb : base' ≤ base) : DrainAt base' o r w' :=
  h.imp id fun ⟨h1, v, L, h2, h3, h4, h5⟩ => ⟨h1, v, L, h2, h3, own_base h4 hb, h5.base hb⟩

set_option maxHeartbeats 2000000 in
theorem Open_any (w : World) : Calls Tryz.prog 11 #[] w fun r w' => r = .returned (.pointer (some ⟨w.heap.size, 0, none⟩)) ∧ Row w' w.heap.size (machV zeroM) ∧ Below w.heap.size w w' := by
  go_enter Tryz.func11, Tryz.ntmps11
  go_wp2_with fail
  go_ret
  refine ⟨rfl, ?_, (Below.refl _ w).alloc (Nat.le_refl _) _⟩
  exact Row.alloc w _ _

set_option maxHeartbeats 2000000 in
theorem Feed_any (m : MkM) (b : Nat) (y : Int) (s : ByteArray) (w : World) (hr : Row w b (machV m)) (hm : maxAt w y) (hl : m.buf.length + 3 * s.size ≤ 4294967280) (hn : m.name.length ≤ 4294967280) :
    Calls Tryz.prog 12 #[.pointer (some ⟨b, 0, none⟩), .string s] w fun r w' => DrainAt w.heap.size (drainF (feedF m s.toList)) r w' ∧ Row w' b (machV (drainF (feedF m s.toList)).2) ∧ Keeps (Only b) w w' := by
  have hbw := hr.lt
  have HR := Lib.hid hr
  have HM := Lib.hid hm
  obtain ⟨-, -, -, -, -, -, -, -, -, hc9⟩ := mach_row hr
  obtain ⟨m1, hm1⟩ : ∃ m1, m1 = feedF m s.toList := ⟨_, rfl⟩
  rw [← hm1]
  unfold feedF at hm1
  have hpl := putF_len s.toList m.cr
  rw [size_toList] at hpl
  clear hr hm
  by_cases he : m.err = 0
  · rw [if_pos he] at hm1
    have hlen : m1.buf.length ≤ 4294967280 := by rw [hm1]; show (m.buf ++ _).length ≤ _; rw [List.length_append]; omega
    have hnm : m1.name.length ≤ 4294967280 := by rw [hm1]; exact hn
    rw [he] at hc9
    go_enter Tryz.func12, Tryz.ntmps12
    go_wp2_with fail
    refine (put_any m b s w HR.out (by omega)).mono ?_
    rw [← hm1]
    rintro r W1 ⟨rfl, r1, k1⟩
    have HM1 := Lib.hid (max_keeps HM.out HR.out k1)
    have HK1 := Lib.hid k1
    have HR1 := Lib.hid r1
    clear k1 r1 hc9 hm1
    dsimp only
    go_wp2_with fail
    refine (drain_any m1 b y W1 HR1.out HM1.out hlen hnm).mono ?_
    rintro r W2 ⟨hd, r2, k2⟩
    replace hd := hd.base HK1.out.size
    have HR2 := Lib.hid r2
    have HK2 := Lib.hid (HK1.out.trans k2)
    clear k2 r2
    rcases hd with ⟨h1, rfl⟩ | ⟨h1, v, L, rfl, h2⟩
    · dsimp only
      go_wp2_with fail
      go_ret2
      exact ⟨.inl ⟨h1, rfl⟩, HR2.out, HK2.out⟩
    · have H2 := Lib.hid h2
      clear h2
      dsimp only
      go_wp2_with fail
      go_ret2
      exact ⟨.inr ⟨h1, v, L, rfl, H2.out⟩, HR2.out, HK2.out⟩
  · rw [if_neg he] at hm1
    have heb : (m.err == 0) = false := beq_eq_false_iff_ne.2 he
    subst hm1
    go_enter Tryz.func12, Tryz.ntmps12
    go_wp2_with fail
    refine (drain_any _ b y w HR.out HM.out (by omega) hn).mono ?_
    rintro r W2 ⟨hd, r2, k2⟩
    have HR2 := Lib.hid r2
    have HK2 := Lib.hid k2
    clear k2 r2
    rcases hd with ⟨h1, rfl⟩ | ⟨h1, v, L, rfl, h2⟩
    · dsimp only
      go_wp2_with fail
      go_ret2
      exact ⟨.inl ⟨h1, rfl⟩, HR2.out, HK2.out⟩
    · have H2 := Lib.hid h2
      clear h2
      dsimp only
      go_wp2_with fail
      go_ret2
      exact ⟨.inr ⟨h1, v, L, rfl, H2.out⟩, HR2.out, HK2.out⟩

theorem AtsOwn.far {base b j : Nat} {L : MS} {u : World} {v : Value} (h : AtsOwn base L u) (hb : b < base) : AtsOwn base L (u.setCell ⟨b, j, none⟩ v) := h.keeps hb (keep_set (Keeps.refl _ _) _)
theorem DrainAt.far {base b j : Nat} {o : List MarkD × MkM} {r : Ending} {u : World} {v : Value} (h : DrainAt base o r u) (hb : b < base) : DrainAt base o r (u.setCell ⟨b, j, none⟩ v) :=
  h.imp id fun ⟨h1, v, L, h2, h3, h4, h5⟩ => ⟨h1, v, L, h2, h3, own_kept h4 fun g hg => heap_setCell_other _ _ _ _ (by show g ≠ b; have := (h4.lt g hg).1; omega), h5.far hb⟩
set_option maxHeartbeats 2000000 in
theorem Close_any (m : MkM) (b : Nat) (y : Int) (w : World) (hr : Row w b (machV m)) (hm : maxAt w y) (hl : m.buf.length ≤ 4294967280) (hn : m.name.length ≤ 4294967280) :
    Calls Tryz.prog 14 #[.pointer (some ⟨b, 0, none⟩)] w fun r w' => DrainAt w.heap.size (drainF { m with closed := true }) r w' ∧ Row w' b (machV zeroM) ∧ Keeps (Only b) w w' := by
  have hbw := hr.lt
  obtain ⟨-, -, hc2, -⟩ := mach_row hr
  obtain ⟨-, -, hf2, -⟩ := mach_free hr
  obtain ⟨m1, hm1⟩ : ∃ m1 : MkM, m1 = { m with closed := true } := ⟨_, rfl⟩
  have HR1 : Hid (Row (w.setCell ⟨b, 2, none⟩ (.bool true)) b (machV m1)) := by show Row _ _ _; rw [hm1]; exact hr.set 2 (.bool true)
  have hk1 : Keeps (Only b) w (w.setCell ⟨b, 2, none⟩ (.bool true)) := keep_set (Keeps.refl (Only b) w) _
  have HM1 := Lib.hid (max_keeps hm hr hk1)
  have HK1 := Lib.hid hk1
  rw [← hm1]
  have hl1 : m1.buf.length ≤ 4294967280 := by rw [hm1]; exact hl
  have hn1 : m1.name.length ≤ 4294967280 := by rw [hm1]; exact hn
  obtain ⟨o2, ho2⟩ : ∃ o2, o2 = drainF m1 := ⟨_, rfl⟩
  rw [← ho2]
  have HO2 := Lib.hid ho2
  clear hr hm hk1 hm1 ho2
  go_enter Tryz.func14, Tryz.ntmps14
  go_wp2_with fail
  refine (drain_any m1 b y _ HR1.out HM1.out hl1 hn1).mono ?_
  rintro r W2 ⟨hd, r2, k2⟩
  replace hd := (hd.base HK1.out.size)
  have HK2 := Lib.hid (HK1.out.trans k2)
  have HR2 := Lib.hid r2
  rw [← HO2.out] at r2 HR2 hd
  obtain ⟨c0, c1, c2, c3, c4, c5, c6, c7, c8, c9⟩ := mach_row r2
  obtain ⟨f0, f1, f2, f3, f4, f5, f6, f7, f8, f9⟩ := mach_free r2
  have HE := Lib.hid ((((((((((HR2.out.set 0 (.string ⟨#[]⟩)).set 1 (.bool false)).set 2 (.bool false)).set 3 (.int .i64 0)).set 4 (.string ⟨#[]⟩)).set 5 (.bool false)).set 6 (.int .i64 0)).set 7 (.int .i64 0)).set 8 (.bool false)).set 9 (.int .i64 0))
  have HKE := Lib.hid (keep_set (keep_set (keep_set (keep_set (keep_set (keep_set (keep_set (keep_set (keep_set (keep_set HK2.out (.string ⟨#[]⟩) (j := 0)) (.bool false) (j := 1)) (.bool false) (j := 2)) (.int .i64 0) (j := 3)) (.string ⟨#[]⟩) (j := 4)) (.bool false) (j := 5)) (.int .i64 0) (j := 6)) (.int .i64 0) (j := 7)) (.bool false) (j := 8)) (.int .i64 0) (j := 9))
  clear k2 r2 hc2 hf2
  rcases hd with ⟨h1, rfl⟩ | ⟨h1, v, L, rfl, h2, h3, h4⟩
  · dsimp only
    go_wp2_with fail
    go_ret2
    exact ⟨.inl ⟨h1, rfl⟩, HE.out, HKE.out⟩
  · have H2 := Lib.hid h2
    have H3 := Lib.hid h3
    have H4 := Lib.hid h4
    clear h2 h3 h4
    dsimp only
    go_wp2_with fail
    go_ret2
    refine ⟨?_, HE.out, HKE.out⟩
    exact DrainAt.far (DrainAt.far (DrainAt.far (DrainAt.far (DrainAt.far (DrainAt.far (DrainAt.far (DrainAt.far (DrainAt.far (DrainAt.far (.inr ⟨h1, v, L, rfl, H2.out, H3.out, H4.out⟩) hbw) hbw) hbw) hbw) hbw) hbw) hbw) hbw) hbw) hbw
end Go.Proofs.YtbabcohidpcjjaaGreat

/-
  Contract: marks.Join: texts side by side are made one.
-/
namespace Go.Proofs.YtbabcohidpcjjaaGreat
open Go.RowKit Mem

theorem marksV_get : ∀ (L : MS) (k : Nat) (h : k < L.length) (j : Nat), j < 5 → (marksV L)[k * 5 + j]? = (markC L[k])[j]?
  | [], _, h, _, _ => by simp at h
  | p :: L, 0, _, j, hj => by
    have e : marksV (p :: L) = markC p ++ marksV L := rfl
    rw [e, Nat.zero_mul, Nat.zero_add, List.getElem?_append_left (by show j < 5; exact hj)]
    rfl
  | p :: L, k + 1, h, j, hj => by
    have e : marksV (p :: L) = markC p ++ marksV L := rfl
    have := marksV_get L k (by simpa using h) j hj
    rw [e, List.getElem?_append_right (by show 5 ≤ _; omega), show (k + 1) * 5 + j - (markC p).length = k * 5 + j from by show (k + 1) * 5 + j - 5 = _; omega, this]
    rfl
theorem mark_cells {w : World} {a : Option Addr} {L : MS} (h : At w a (marksV L)) {k : Nat} (hk : k < L.length) :
    ∃ b o, a = some ⟨b, o, none⟩ ∧ b < w.heap.size ∧ w.cell? ⟨b, o + k * 5, none⟩ = some (.int .i64 L[k].1.kind) ∧ w.cell? ⟨b, o + k * 5 + 1, none⟩ = some (.string (strB L[k].1.name)) ∧ w.cell? ⟨b, o + k * 5 + 2, none⟩ = some L[k].2 ∧ w.cell? ⟨b, o + k * 5 + 3, none⟩ = some (.bool L[k].1.self) ∧ w.cell? ⟨b, o + k * 5 + 4, none⟩ = some (.string (strB L[k].1.text)) := by
  have g := fun j hj => marksV_get L k hk j hj
  obtain ⟨b, o, rfl, h0⟩ := h _ _ (g 0 (by omega))
  have hj : ∀ j u, (marksV L)[k * 5 + j]? = some u → w.cell? ⟨b, o + k * 5 + j, none⟩ = some u := fun j u hu => by rw [Nat.add_assoc]; exact h.get hu
  exact ⟨b, o, rfl, lt_of_cell h0, h0, hj 1 _ (g 1 (by omega)), hj 2 _ (g 2 (by omega)), hj 3 _ (g 3 (by omega)), hj 4 _ (g 4 (by omega))⟩
theorem join_other {out r : List MarkD} {x : MarkD} (hk : x.kind ≠ 1) : joinF out (x :: r) = joinF (out ++ [x]) r := by rw [joinF, if_pos hk]
theorem join_empty {out r : List MarkD} {x : MarkD} (hk : x.kind = 1) (ht : x.text = []) : joinF out (x :: r) = joinF out r := by rw [joinF, if_neg (fun h => h hk), if_pos ht]
theorem join_merge {out r : List MarkD} {x y : MarkD} (hk : x.kind = 1) (ht : x.text ≠ []) (hy : y.kind = 1) : joinF (out ++ [y]) (x :: r) = joinF (out ++ [{ y with text := y.text ++ x.text }]) r := by
  rw [joinF, if_neg (fun h => h hk), if_neg ht, List.getLast?_concat]
  simp only
  rw [if_pos hy, List.dropLast_concat]
theorem join_push {out r : List MarkD} {x : MarkD} (hk : x.kind = 1) (ht : x.text ≠ []) (hy : ∀ y, out.getLast? = some y → y.kind ≠ 1) : joinF out (x :: r) = joinF (out ++ [x]) r := by
  rw [joinF, if_neg (fun h => h hk), if_neg ht]
  cases h : out.getLast? with
  | none => rfl
  | some y => simp only; rw [if_neg (hy y h)]
/-- marks as Join is handed them -/
def AtsAt (w : World) (L : MS) : Prop := ∀ p ∈ L, ∃ ao co, p.2 = .slice ao p.1.attrs.length co ∧ (ao = none → co = 0) ∧ At w ao (pairsV (attP p.1.attrs)) ∧ p.1.attrs.length ≤ 100

theorem toList_append' (a b : ByteArray) : (a ++ b).toList = a.toList ++ b.toList := by
  rw [ByteArray.toList_eq, ByteArray.toList_eq, ByteArray.toList_eq, ByteArray.data_append, Array.toList_append]
theorem own_empty {w : World} {base g : Nat} {t : TypeId} {size : Nat} (hg : g = w.heap.size) (hb : base ≤ g) : (w.alloc (.cells #[] t)).ownsRow base t size (.slice (some ⟨g, 0, none⟩) 0 0) 0 [] := by
  subst hg
  exact ⟨by simp, .inr ⟨_, 0, #[], rfl, hb, heap_alloc_new _ _, Nat.le_refl _, Nat.zero_le _, by simp, by simp⟩⟩
theorem markX_cells {W : World} {X : Nat} {v0 v1 v2 v3 v4 : Value} {t : TypeId} (h : W.heap[X]? = some (.cells #[v0, v1, v2, v3, v4] t (0, 0))) :
    (W.cell? ⟨X, 0, none⟩ = some v0 ∧ W.cell? ⟨X, 1, none⟩ = some v1 ∧ W.cell? ⟨X, 2, none⟩ = some v2 ∧ W.cell? ⟨X, 3, none⟩ = some v3 ∧ W.cell? ⟨X, 4, none⟩ = some v4) ∧ W.frozen? ⟨X, 2, none⟩ = false := by
  refine ⟨⟨?_, ?_, ?_, ?_, ?_⟩, ?_⟩ <;> simp [World.cell?, World.frozen?, h]
theorem marksV_text (L : MS) (y : MarkD) (s : Value) (t : Str) : (marksV (L ++ [(y, s)])).set (L.length * 5 + 4) (.string (strB t)) = marksV (L ++ [({ y with text := t }, s)]) := by
  rw [marksV_push, marksV_push, List.set_append_right _ _ (by rw [marksV_length]; omega), marksV_length, Nat.add_sub_cancel_left]
  rfl
set_option maxRecDepth 100000 in
set_option maxHeartbeats 4000000 in
theorem Join_any (L : MS) (a : Option Addr) (c : Nat) (w : World) (hA : At w a (marksV L)) (hAA : AtsAt w L) (hL : L.length ≤ 10000000000) (hT : tlen (L.map (·.1)) ≤ 1099511627776) :
    Calls Tryz.prog 25 #[.slice a L.length c] w fun r w' => ∃ v Lo, r = .returned v ∧ Lo.map (·.1) = joinF [] (L.map (·.1)) ∧ w'.ownsRow w.heap.size 46 5 v Lo.length (marksV Lo) ∧ AtsOwn w.heap.size Lo w' ∧ Below w.heap.size w w' := by
  have HA := Lib.hid hA
  have HAA := Lib.hid hAA
  obtain ⟨i0', hi, hi0, hi1, hi2⟩ := info_parts info_mark
  obtain ⟨j0', hj, hj0, hj1, hj2⟩ := info_parts info_attr
  obtain ⟨J, hJ⟩ : ∃ J, J = joinF [] (L.map (·.1)) := ⟨_, rfl⟩
  rw [← hJ]
  have HJ := Lib.hid hJ
  obtain ⟨n, hn⟩ : ∃ n, n = L.length := ⟨_, rfl⟩
  rw [← hn]
  have HN := Lib.hid hn
  have hL' : n ≤ 10000000000 := by omega
  clear hA hAA hJ hn hL
  go_enter Tryz.func25, Tryz.ntmps25
  go_wp2_with fail
  go_loopw [3, 9] (fun v i wr => ∃ (k : Nat) (Lo : MS), k ≤ n ∧ i = .int .i64 k ∧ Lo.length ≤ k ∧ joinF (Lo.map (·.1)) ((L.drop k).map (·.1)) = J ∧ wr.ownsRow w.heap.size 46 5 v Lo.length (marksV Lo) ∧ AtsOwn w.heap.size Lo wr ∧ Below w.heap.size w wr ∧ (∀ p ∈ Lo, p.1.text.length + tlen ((L.drop k).map (·.1)) ≤ 1099511627776) ∧ tlen ((L.drop k).map (·.1)) ≤ 1099511627776) (fun _ i _ => n - (intOf i).toNat)
  case atStart => exact ⟨0, [], Nat.zero_le _, rfl, Nat.le_refl _, by rw [HJ.out]; rfl, World.ownsRow_nil _ _ _ _, fun p hp => (by cases hp), Below.refl _ _, fun p hp => (by cases hp), hT⟩
  case round =>
    obtain ⟨k, Lo, hk, rfl, hlo, hj', hro, hao, hb, htx, htl⟩ := hrel
    have HJK := Lib.hid hj'
    have HOr := Lib.hid hro
    have HAr := Lib.hid hao
    have HBr := Lib.hid hb
    have HTX := Lib.hid htx
    have HTL := Lib.hid htl
    obtain ⟨ao, co, hv, hco1, hco2, hco3, -⟩ := own_at hro
    subst hv
    clear hj' hro hao hb htx htl
    by_cases hlt : k < n
    · have hkL : k < L.length := by rw [← HN.out]; exact hlt
      obtain ⟨b, oo, rfl, hbw, x0, x1, x2, x3, x4⟩ := mark_cells (HA.out.below HBr.out) hkL
      have HD := Lib.hid (List.drop_eq_getElem_cons hkL)
      obtain ⟨sa, sc, hsl, hsn, hsat, hsl100⟩ := HAA.out L[k] (List.getElem_mem hkL)
      generalize L[k] = p at *
      obtain ⟨x, sl⟩ := p
      simp only at x0 x1 x2 x3 x4 hsl hsat hsl100
      subst hsl
      have HSA := Lib.hid (hsat.below HBr.out)
      clear hsat
      by_cases hkd : x.kind = 1
      · have hkb : (x.kind != 1) = false := by rw [hkd]; rfl
        by_cases hte : x.text = []
        · have htb : (strB x.text).toList.isEmpty = true := by rw [toList_strB, hte]; rfl
          have HJN := Lib.hid (show joinF (Lo.map (·.1)) ((L.drop (k + 1)).map (·.1)) = J from by rw [← HJK.out, HD.out, List.map_cons, join_empty hkd hte])
          clear hkd hte
          go_wp2_with fail
          go_roundw
          case rel => exact ⟨k + 1, Lo, by omega, by go_num, by omega, HJN.out, HOr.out.alloc _, fun p hp => (HAr.out p hp).alloc _, HBr.out.alloc HBr.out.size _, fun p hp => by have h := HTX.out p hp; rw [HD.out, List.map_cons, tlen] at h; omega, by have h := HTL.out; rw [HD.out, List.map_cons, tlen] at h; omega⟩
          case measure => simp [intOf]; omega
        · have htb : (strB x.text).toList.isEmpty = false := by
            rw [toList_strB]
            cases h : x.text with
            | nil => exact absurd h hte
            | cons _ _ => rfl
          rcases List.eq_nil_or_concat Lo with hLo | ⟨Lo0, p0, hLo⟩
          · have HJN := Lib.hid (show joinF (Lo.map (·.1) ++ [x]) ((L.drop (k + 1)).map (·.1)) = J from by rw [← HJK.out, HD.out, List.map_cons, join_push hkd hte (by rw [hLo]; intro y hy; cases hy)])
            have hl0 : Lo.length = 0 := by rw [hLo]; rfl
            have hl0i : ¬ (0 : Int) < (Lo.length : Int) := by omega
            clear hkd hte hLo hl0
            have hzr := HBr.out.size
            have HE := Lib.hid (own_empty (w := wr.alloc (.cells #[.int .i64 x.kind, .string (strB x.name), .slice sa x.attrs.length sc, .bool x.self, .string (strB x.text)] 46)) (base := w.heap.size) (g := wr.heap.size + 1) (t := 56) (size := 2) (by simp) (by omega))
            have HSA2 := Lib.hid ((HSA.out.below ((Below.refl wr.heap.size wr).alloc (Nat.le_refl _) (.cells #[.int .i64 x.kind, .string (strB x.name), .slice sa x.attrs.length sc, .bool x.self, .string (strB x.text)] 46))).below ((Below.refl _ _).alloc (Nat.le_refl _) (.cells #[] 56)))
            have hz2 : w.heap.size ≤ ((wr.alloc (.cells #[.int .i64 x.kind, .string (strB x.name), .slice sa x.attrs.length sc, .bool x.self, .string (strB x.text)] 46)).alloc (.cells #[] 56)).heap.size := by simp; omega
            have hb1 : 0 + x.attrs.length ≤ maxLen := by unfold maxLen; omega
            have hb2 : (0 + x.attrs.length) * 32 ≤ 140737488355328 := by omega
            have hb3 : Lo.length + 1 ≤ maxLen := by unfold maxLen; omega
            have hb4 : (Lo.length + 1) * 72 ≤ 140737488355328 := by omega
            have HX2 : Hid (((wr.alloc (.cells #[.int .i64 x.kind, .string (strB x.name), .slice sa x.attrs.length sc, .bool x.self, .string (strB x.text)] 46)).alloc (.cells #[] 56)).heap[wr.heap.size]? = some (.cells #[.int .i64 x.kind, .string (strB x.name), .slice sa x.attrs.length sc, .bool x.self, .string (strB x.text)] 46 (0, 0))) := alloc_keep (heap_alloc_new _ _)
            have HO2 := Lib.hid ((HOr.out.alloc (.cells #[.int .i64 x.kind, .string (strB x.name), .slice sa x.attrs.length sc, .bool x.self, .string (strB x.text)] 46)).alloc (.cells #[] 56))
            have HA2 := Lib.hid (show AtsOwn w.heap.size Lo ((wr.alloc (.cells #[.int .i64 x.kind, .string (strB x.name), .slice sa x.attrs.length sc, .bool x.self, .string (strB x.text)] 46)).alloc (.cells #[] 56)) from fun p hp => ((HAr.out p hp).alloc _).alloc _)
            have HB2 := Lib.hid ((HBr.out.alloc hzr (.cells #[.int .i64 x.kind, .string (strB x.name), .slice sa x.attrs.length sc, .bool x.self, .string (strB x.text)] 46)).alloc (by simp; omega) (.cells #[] 56))
            have hzX : wr.heap.size < ((wr.alloc (.cells #[.int .i64 x.kind, .string (strB x.name), .slice sa x.attrs.length sc, .bool x.self, .string (strB x.text)] 46)).alloc (.cells #[] 56)).heap.size := by simp; omega
            have HOn : Hid (∀ g, (Value.slice ao Lo.length co).ownBlock = some g → g ≠ wr.heap.size) := fun g hg => Nat.ne_of_lt (HOr.out.lt g hg).2
            have HAn : Hid (∀ p ∈ Lo, ∀ g, p.2.ownBlock = some g → g ≠ wr.heap.size) := fun p hp g hg => Nat.ne_of_lt ((HAr.out p hp).lt g hg).2
            have HOne : Hid (∀ g, (Value.slice ao Lo.length co).ownBlock = some g → some g ≠ (Value.slice (some ⟨wr.heap.size + 1, 0, none⟩) 0 0).ownBlock) := fun g hg e => by
              have h1 := (HOr.out.lt g hg).2
              have h2 : g = wr.heap.size + 1 := Option.some.inj e
              omega
            have HAne : Hid (∀ p ∈ Lo, ∀ g, p.2.ownBlock = some g → some g ≠ (Value.slice (some ⟨wr.heap.size + 1, 0, none⟩) 0 0).ownBlock) := fun p hp g hg e => by
              have h1 := ((HAr.out p hp).lt g hg).2
              have h2 : g = wr.heap.size + 1 := Option.some.inj e
              omega
            have HXne : Hid (some wr.heap.size ≠ (Value.slice (some ⟨wr.heap.size + 1, 0, none⟩) 0 0).ownBlock) := fun e => by
              have h2 : wr.heap.size = wr.heap.size + 1 := Option.some.inj e
              omega
            have HBb : Hid (∀ k, (Value.slice (some ⟨wr.heap.size + 1, 0, none⟩) 0 0).ownBlock = some k → w.heap.size ≤ k) := fun k hk => by
              have h2 : wr.heap.size + 1 = k := Option.some.inj hk
              omega
            go_wp2_with (at_builtin; first
              | (refine wpList_append_slice _ rfl _ _ 44 rfl w.heap.size 56 j0' _ 2 32 Tryz.underlying44 hj hj0 hj1 hj2 rfl (by decide) _ 0 [] rfl HE.out sa x.attrs.length sc (pairsV (attP x.attrs)) rfl (by rw [pairsV_length, attP_length]) hsn HSA2.out (pairsV_one _) hb1 hb2 hz2 ?_; intro v3 w3 hown3 hgr3; rw [List.nil_append, Nat.zero_add] at hown3; obtain ⟨a3, c3, hv3, -, -, -, -⟩ := own_at hown3; subst hv3; generalize ((wr.alloc (.cells #[.int .i64 x.kind, .string (strB x.name), .slice sa x.attrs.length sc, .bool x.self, .string (strB x.text)] 46)).alloc (.cells #[] 56)) = W2 at *; have HX3 := Lib.hid ((hgr3.block wr.heap.size hzX HXne.out).trans HX2.out); obtain ⟨⟨y0, y1, y2, y3, y4⟩, z2⟩ := markX_cells HX3.out; have HO3 := Lib.hid (own_kept HO2.out fun g hg => hgr3.block g (HO2.out.lt g hg).2 (HOne.out g hg)); have HA3 := Lib.hid (show AtsOwn w.heap.size Lo w3 from fun p hp => own_kept (HA2.out p hp) fun g hg => hgr3.block g ((HA2.out p hp).lt g hg).2 (HAne.out p hp g hg)); have HB3 := Lib.hid (HB2.out.grown hgr3 hz2 HBb.out); have HOX := Lib.hid hown3; have hzX3 := Nat.lt_of_lt_of_le hzX hgr3.size; clear hown3 hgr3)
              | (go_must (have HO4 := Lib.hid ((own_kept (w' := w3.setCell ⟨wr.heap.size, 2, none⟩ (.slice a3 x.attrs.length c3)) HO3.out fun g hg => heap_setCell_other _ _ _ _ (HOn.out g hg)).alloc (.cells #[.int .i64 x.kind, .string (strB x.name), .slice a3 x.attrs.length c3, .bool x.self, .string (strB x.text)] 46)); have HN4 := Lib.hid ((at_alloc (w := w3.setCell ⟨wr.heap.size, 2, none⟩ (.slice a3 x.attrs.length c3)) (cur := #[.int .i64 x.kind, .string (strB x.name), .slice a3 x.attrs.length c3, .bool x.self, .string (strB x.text)]) (e := 46) (xs := markC (x, .slice a3 x.attrs.length c3)) (g := w3.heap.size) (by simp) rfl).news); have HA4 := Lib.hid (show AtsOwn w.heap.size (Lo ++ [(x, .slice a3 x.attrs.length c3)]) ((w3.setCell ⟨wr.heap.size, 2, none⟩ (.slice a3 x.attrs.length c3)).alloc (.cells #[.int .i64 x.kind, .string (strB x.name), .slice a3 x.attrs.length c3, .bool x.self, .string (strB x.text)] 46)) from fun p hp => World.ownsRow.alloc (by rcases List.mem_append.1 hp with hp | hp; exact own_kept (HA3.out p hp) fun g hg => heap_setCell_other _ _ _ _ (HAn.out p hp g hg); rw [List.mem_singleton.1 hp]; exact own_kept HOX.out fun g hg => heap_setCell_other _ _ _ _ fun eg => own_diff HOX.out (w := w3) (v' := .slice (some ⟨wr.heap.size, 0, none⟩) 1 1) (base' := 0) (t' := 46) (size' := 5) (n' := 1) (xs' := [.int .i64 x.kind, .string (strB x.name), .slice sa x.attrs.length sc, .bool x.self, .string (strB x.text)]) ⟨rfl, .inr ⟨wr.heap.size, 1, _, rfl, Nat.zero_le _, HX3.out, Nat.le_refl _, by decide, rfl, rfl⟩⟩ (by decide) g hg (by rw [eg]; rfl)) _); have HB4 := Lib.hid ((HB3.out.setCell (p := ⟨wr.heap.size, 2, none⟩) hzr (.slice a3 x.attrs.length c3)).alloc (by have := HB3.out.size; simp; omega) (.cells #[.int .i64 x.kind, .string (strB x.name), .slice a3 x.attrs.length c3, .bool x.self, .string (strB x.text)] 46)); have hz4 : w.heap.size ≤ ((w3.setCell ⟨wr.heap.size, 2, none⟩ (.slice a3 x.attrs.length c3)).alloc (.cells #[.int .i64 x.kind, .string (strB x.name), .slice a3 x.attrs.length c3, .bool x.self, .string (strB x.text)] 46)).heap.size := HB4.out.size; refine wpList_append_own _ rfl _ _ 23 rfl w.heap.size 46 i0' _ 5 72 Tryz.underlying23 hi hi0 hi1 hi2 rfl (by decide) _ Lo.length _ rfl HO4.out _ 1 1 (markC (x, .slice a3 x.attrs.length c3)) rfl rfl HN4.out (markC_one x a3 _ c3) hb3 hb4 hz4 ?_; intro v5 w5 hown5 hgr5 _; rw [← marksV_push] at hown5; have HO5 := Lib.hid hown5; have HA5 := Lib.hid (HA4.out.grown HO4.out hgr5); have HB5 := Lib.hid (HB4.out.grown hgr5 hz4 (fun k hk => (HO4.out.lt k hk).1)); clear hown5 hgr5)))
            have HTX5 := Lib.hid (show ∀ q ∈ Lo ++ [(x, Value.slice a3 x.attrs.length c3)], q.1.text.length + tlen ((L.drop (k + 1)).map (·.1)) ≤ 1099511627776 from fun q hq => by
              have ht := HTL.out
              rw [HD.out, List.map_cons, tlen] at ht
              rcases List.mem_append.1 hq with hq | hq
              · have h := HTX.out q hq
                rw [HD.out, List.map_cons, tlen] at h
                omega
              · rw [List.mem_singleton.1 hq]
                exact ht)
            have HTL5 := Lib.hid (show tlen ((L.drop (k + 1)).map (·.1)) ≤ 1099511627776 from by have h := HTL.out; rw [HD.out, List.map_cons, tlen] at h; omega)
            go_roundw
            case rel => exact ⟨k + 1, Lo ++ [(x, .slice a3 x.attrs.length c3)], by omega, by go_num, by rw [List.length_append]; show Lo.length + 1 ≤ _; omega, by rw [List.map_append]; exact HJN.out, by rw [List.length_append]; exact HO5.out, HA5.out, HB5.out, HTX5.out, HTL5.out⟩
            case measure => simp [intOf]; omega
          · rw [List.concat_eq_append] at hLo
            obtain ⟨y, ysl⟩ := p0
            obtain ⟨q, hq⟩ : ∃ q, q = Lo0.length := ⟨_, rfl⟩
            have hlen : Lo.length = q + 1 := by rw [hLo, List.length_append, hq]; rfl
            obtain ⟨gr, cap, hsl2, hgb, -, -⟩ := own_some HOr.out (by omega)
            obtain ⟨hao, -⟩ : ao = some ⟨gr, 0, none⟩ ∧ co = cap := by simpa using hsl2
            subst hao
            have hrow := own_row HOr.out
            have hgl : gr < wr.heap.size := hrow.lt
            have hget : ∀ j, j < 5 → (marksV Lo)[q * 5 + j]? = (markC (y, ysl))[j]? := fun j hj => by
              have h := marksV_get Lo q (by omega) j hj
              rw [h]
              congr 2
              simp only [hLo, hq]
              rw [List.getElem_concat_length]
              rfl
            have hg0 : wr.cell? ⟨gr, q * 5, none⟩ = some (.int .i64 y.kind) := hrow.cell (hget 0 (by omega))
            have hg4 : wr.cell? ⟨gr, q * 5 + 4, none⟩ = some (.string (strB y.text)) := hrow.cell (hget 4 (by omega))
            have hgf : wr.frozen? ⟨gr, q * 5 + 4, none⟩ = false := HOr.out.frozenAt _
            have hgt : (0 : Int) < (Lo.length : Int) := by omega
            have hsub : (Lo.length : Int) - 1 = (q : Int) := by omega
            have hqL : q < Lo.length := by omega
            have hqLi : (q : Int) < (Lo.length : Int) := by omega
            clear hsl2 hget hrow
            by_cases hy : y.kind = 1
            · have hyb : (y.kind == 1) = true := by rw [hy]; rfl
              have HJN := Lib.hid (show joinF ((Lo0 ++ [({ y with text := y.text ++ x.text }, ysl)] : MS).map (·.1)) ((L.drop (k + 1)).map (·.1)) = J from by
                rw [← HJK.out, HD.out, List.map_cons, hLo, List.map_append, List.map_append]
                exact (join_merge hkd hte hy).symm)
              have hcat : strB y.text ++ strB x.text = strB (y.text ++ x.text) := by
                apply toList_inj
                rw [toList_append', toList_strB, toList_strB, toList_strB]
              have hno : ¬ 9223372036854775807 < (strB y.text).size + (strB x.text).size := by
                have h := HTX.out (y, ysl) (by rw [hLo]; simp)
                rw [HD.out, List.map_cons, tlen] at h
                rw [strB_size, strB_size]
                simp only at h
                omega
              have HLO := Lib.hid hLo
              have HQ := Lib.hid hq
              have HLN := Lib.hid hlen
              clear hkd hte hLo hq hlen hy
              go_wp2_with fail
              go_region
              go_wp2_with fail
              have hst := HOr.out.stored (q * 5 + 4) (.string (strB (y.text ++ x.text)))
              have HO6 := Lib.hid hst.1
              have HE6 := Lib.hid (show (marksV Lo).set (q * 5 + 4) (.string (strB (y.text ++ x.text))) = marksV (Lo0 ++ [({ y with text := y.text ++ x.text }, ysl)]) from by rw [HLO.out, HQ.out]; exact marksV_text Lo0 y ysl _)
              have hl6 : (Lo0 ++ [(({ y with text := y.text ++ x.text } : MarkD), ysl)]).length = Lo.length := by rw [HLO.out, List.length_append, List.length_append]; rfl
              have HA6 := Lib.hid (HAr.out.grown HOr.out hst.2)
              have HA7 : Hid (AtsOwn w.heap.size (Lo0 ++ [(({ y with text := y.text ++ x.text } : MarkD), ysl)]) (wr.setCell ⟨gr, q * 5 + 4, none⟩ (.string (strB (y.text ++ x.text))))) := fun p hp => by
                rcases List.mem_append.1 hp with hp | hp
                · exact HA6.out p (by rw [HLO.out]; exact List.mem_append_left _ hp)
                · rw [List.mem_singleton.1 hp]
                  exact HA6.out (y, ysl) (by rw [HLO.out]; simp)
              have HB6 := Lib.hid (HBr.out.setCell (p := ⟨gr, q * 5 + 4, none⟩) hgb (.string (strB (y.text ++ x.text))))
              have HTL5 := Lib.hid (show tlen ((L.drop (k + 1)).map (·.1)) ≤ 1099511627776 from by have h := HTL.out; rw [HD.out, List.map_cons, tlen] at h; omega)
              have HTX5 := Lib.hid (show ∀ p ∈ (Lo0 ++ [(({ y with text := y.text ++ x.text } : MarkD), ysl)]), p.1.text.length + tlen ((L.drop (k + 1)).map (·.1)) ≤ 1099511627776 from fun p hp => by
                rcases List.mem_append.1 hp with hp | hp
                · have h := HTX.out p (by rw [HLO.out]; exact List.mem_append_left _ hp)
                  rw [HD.out, List.map_cons, tlen] at h
                  omega
                · rw [List.mem_singleton.1 hp]
                  have h := HTX.out (y, ysl) (by rw [HLO.out]; simp)
                  rw [HD.out, List.map_cons, tlen] at h
                  simp only [List.length_append]
                  simp only at h
                  omega)
              clear hst
              go_roundw
              case rel =>
                refine ⟨k + 1, Lo0 ++ [({ y with text := y.text ++ x.text }, ysl)], by omega, by go_num, by rw [hl6]; omega, HJN.out, ?_, fun p hp => ((HA7.out p hp).alloc _).drew, ?_, HTX5.out, HTL5.out⟩
                · rw [hl6, ← HE6.out]
                  exact (HO6.out.alloc _).drew
                · exact (HB6.out.alloc (by have := HB6.out.size; exact this) _).drew
              case measure => simp [intOf]; omega
            · have hyb : (y.kind == 1) = false := beq_eq_false_iff_ne.2 hy
              have HJN := Lib.hid (show joinF (Lo.map (·.1) ++ [x]) ((L.drop (k + 1)).map (·.1)) = J from by
                rw [← HJK.out, HD.out, List.map_cons, join_push hkd hte (by
                  rw [hLo, List.map_append]
                  intro z hz
                  rw [show ([(y, ysl)] : MS).map (·.1) = [y] from rfl, List.getLast?_concat] at hz
                  cases hz
                  exact hy)])
              clear hkd hte hLo hlen hq hy
              have hzr := HBr.out.size
              have HE := Lib.hid (own_empty (w := wr.alloc (.cells #[.int .i64 x.kind, .string (strB x.name), .slice sa x.attrs.length sc, .bool x.self, .string (strB x.text)] 46)) (base := w.heap.size) (g := wr.heap.size + 1) (t := 56) (size := 2) (by simp) (by omega))
              have HSA2 := Lib.hid ((HSA.out.below ((Below.refl wr.heap.size wr).alloc (Nat.le_refl _) (.cells #[.int .i64 x.kind, .string (strB x.name), .slice sa x.attrs.length sc, .bool x.self, .string (strB x.text)] 46))).below ((Below.refl _ _).alloc (Nat.le_refl _) (.cells #[] 56)))
              have hz2 : w.heap.size ≤ ((wr.alloc (.cells #[.int .i64 x.kind, .string (strB x.name), .slice sa x.attrs.length sc, .bool x.self, .string (strB x.text)] 46)).alloc (.cells #[] 56)).heap.size := by simp; omega
              have hb1 : 0 + x.attrs.length ≤ maxLen := by unfold maxLen; omega
              have hb2 : (0 + x.attrs.length) * 32 ≤ 140737488355328 := by omega
              have hb3 : Lo.length + 1 ≤ maxLen := by unfold maxLen; omega
              have hb4 : (Lo.length + 1) * 72 ≤ 140737488355328 := by omega
              have HX2 : Hid (((wr.alloc (.cells #[.int .i64 x.kind, .string (strB x.name), .slice sa x.attrs.length sc, .bool x.self, .string (strB x.text)] 46)).alloc (.cells #[] 56)).heap[wr.heap.size]? = some (.cells #[.int .i64 x.kind, .string (strB x.name), .slice sa x.attrs.length sc, .bool x.self, .string (strB x.text)] 46 (0, 0))) := alloc_keep (heap_alloc_new _ _)
              have HO2 := Lib.hid ((HOr.out.alloc (.cells #[.int .i64 x.kind, .string (strB x.name), .slice sa x.attrs.length sc, .bool x.self, .string (strB x.text)] 46)).alloc (.cells #[] 56))
              have HA2 := Lib.hid (show AtsOwn w.heap.size Lo ((wr.alloc (.cells #[.int .i64 x.kind, .string (strB x.name), .slice sa x.attrs.length sc, .bool x.self, .string (strB x.text)] 46)).alloc (.cells #[] 56)) from fun p hp => ((HAr.out p hp).alloc _).alloc _)
              have HB2 := Lib.hid ((HBr.out.alloc hzr (.cells #[.int .i64 x.kind, .string (strB x.name), .slice sa x.attrs.length sc, .bool x.self, .string (strB x.text)] 46)).alloc (by simp; omega) (.cells #[] 56))
              have hzX : wr.heap.size < ((wr.alloc (.cells #[.int .i64 x.kind, .string (strB x.name), .slice sa x.attrs.length sc, .bool x.self, .string (strB x.text)] 46)).alloc (.cells #[] 56)).heap.size := by simp; omega
              have HOn : Hid (∀ g, (Value.slice (some ⟨gr, 0, none⟩) Lo.length co).ownBlock = some g → g ≠ wr.heap.size) := fun g hg => Nat.ne_of_lt (HOr.out.lt g hg).2
              have HAn : Hid (∀ p ∈ Lo, ∀ g, p.2.ownBlock = some g → g ≠ wr.heap.size) := fun p hp g hg => Nat.ne_of_lt ((HAr.out p hp).lt g hg).2
              have HOne : Hid (∀ g, (Value.slice (some ⟨gr, 0, none⟩) Lo.length co).ownBlock = some g → some g ≠ (Value.slice (some ⟨wr.heap.size + 1, 0, none⟩) 0 0).ownBlock) := fun g hg e => by
                have h1 := (HOr.out.lt g hg).2
                have h2 : g = wr.heap.size + 1 := Option.some.inj e
                omega
              have HAne : Hid (∀ p ∈ Lo, ∀ g, p.2.ownBlock = some g → some g ≠ (Value.slice (some ⟨wr.heap.size + 1, 0, none⟩) 0 0).ownBlock) := fun p hp g hg e => by
                have h1 := ((HAr.out p hp).lt g hg).2
                have h2 : g = wr.heap.size + 1 := Option.some.inj e
                omega
              have HXne : Hid (some wr.heap.size ≠ (Value.slice (some ⟨wr.heap.size + 1, 0, none⟩) 0 0).ownBlock) := fun e => by
                have h2 : wr.heap.size = wr.heap.size + 1 := Option.some.inj e
                omega
              have HBb : Hid (∀ k, (Value.slice (some ⟨wr.heap.size + 1, 0, none⟩) 0 0).ownBlock = some k → w.heap.size ≤ k) := fun k hk => by
                have h2 : wr.heap.size + 1 = k := Option.some.inj hk
                omega
              go_wp2_with (at_builtin; first
                | (refine wpList_append_slice _ rfl _ _ 44 rfl w.heap.size 56 j0' _ 2 32 Tryz.underlying44 hj hj0 hj1 hj2 rfl (by decide) _ 0 [] rfl HE.out sa x.attrs.length sc (pairsV (attP x.attrs)) rfl (by rw [pairsV_length, attP_length]) hsn HSA2.out (pairsV_one _) hb1 hb2 hz2 ?_; intro v3 w3 hown3 hgr3; rw [List.nil_append, Nat.zero_add] at hown3; obtain ⟨a3, c3, hv3, -, -, -, -⟩ := own_at hown3; subst hv3; generalize ((wr.alloc (.cells #[.int .i64 x.kind, .string (strB x.name), .slice sa x.attrs.length sc, .bool x.self, .string (strB x.text)] 46)).alloc (.cells #[] 56)) = W2 at *; have HX3 := Lib.hid ((hgr3.block wr.heap.size hzX HXne.out).trans HX2.out); obtain ⟨⟨y0, y1, y2, y3, y4⟩, z2⟩ := markX_cells HX3.out; have HO3 := Lib.hid (own_kept HO2.out fun g hg => hgr3.block g (HO2.out.lt g hg).2 (HOne.out g hg)); have HA3 := Lib.hid (show AtsOwn w.heap.size Lo w3 from fun p hp => own_kept (HA2.out p hp) fun g hg => hgr3.block g ((HA2.out p hp).lt g hg).2 (HAne.out p hp g hg)); have HB3 := Lib.hid (HB2.out.grown hgr3 hz2 HBb.out); have HOX := Lib.hid hown3; have hzX3 := Nat.lt_of_lt_of_le hzX hgr3.size; clear hown3 hgr3)
                | (go_must (have HO4 := Lib.hid ((own_kept (w' := w3.setCell ⟨wr.heap.size, 2, none⟩ (.slice a3 x.attrs.length c3)) HO3.out fun g hg => heap_setCell_other _ _ _ _ (HOn.out g hg)).alloc (.cells #[.int .i64 x.kind, .string (strB x.name), .slice a3 x.attrs.length c3, .bool x.self, .string (strB x.text)] 46)); have HN4 := Lib.hid ((at_alloc (w := w3.setCell ⟨wr.heap.size, 2, none⟩ (.slice a3 x.attrs.length c3)) (cur := #[.int .i64 x.kind, .string (strB x.name), .slice a3 x.attrs.length c3, .bool x.self, .string (strB x.text)]) (e := 46) (xs := markC (x, .slice a3 x.attrs.length c3)) (g := w3.heap.size) (by simp) rfl).news); have HA4 := Lib.hid (show AtsOwn w.heap.size (Lo ++ [(x, .slice a3 x.attrs.length c3)]) ((w3.setCell ⟨wr.heap.size, 2, none⟩ (.slice a3 x.attrs.length c3)).alloc (.cells #[.int .i64 x.kind, .string (strB x.name), .slice a3 x.attrs.length c3, .bool x.self, .string (strB x.text)] 46)) from fun p hp => World.ownsRow.alloc (by rcases List.mem_append.1 hp with hp | hp; exact own_kept (HA3.out p hp) fun g hg => heap_setCell_other _ _ _ _ (HAn.out p hp g hg); rw [List.mem_singleton.1 hp]; exact own_kept HOX.out fun g hg => heap_setCell_other _ _ _ _ fun eg => own_diff HOX.out (w := w3) (v' := .slice (some ⟨wr.heap.size, 0, none⟩) 1 1) (base' := 0) (t' := 46) (size' := 5) (n' := 1) (xs' := [.int .i64 x.kind, .string (strB x.name), .slice sa x.attrs.length sc, .bool x.self, .string (strB x.text)]) ⟨rfl, .inr ⟨wr.heap.size, 1, _, rfl, Nat.zero_le _, HX3.out, Nat.le_refl _, by decide, rfl, rfl⟩⟩ (by decide) g hg (by rw [eg]; rfl)) _); have HB4 := Lib.hid ((HB3.out.setCell (p := ⟨wr.heap.size, 2, none⟩) hzr (.slice a3 x.attrs.length c3)).alloc (by have := HB3.out.size; simp; omega) (.cells #[.int .i64 x.kind, .string (strB x.name), .slice a3 x.attrs.length c3, .bool x.self, .string (strB x.text)] 46)); have hz4 : w.heap.size ≤ ((w3.setCell ⟨wr.heap.size, 2, none⟩ (.slice a3 x.attrs.length c3)).alloc (.cells #[.int .i64 x.kind, .string (strB x.name), .slice a3 x.attrs.length c3, .bool x.self, .string (strB x.text)] 46)).heap.size := HB4.out.size; refine wpList_append_own _ rfl _ _ 23 rfl w.heap.size 46 i0' _ 5 72 Tryz.underlying23 hi hi0 hi1 hi2 rfl (by decide) _ Lo.length _ rfl HO4.out _ 1 1 (markC (x, .slice a3 x.attrs.length c3)) rfl rfl HN4.out (markC_one x a3 _ c3) hb3 hb4 hz4 ?_; intro v5 w5 hown5 hgr5 _; rw [← marksV_push] at hown5; have HO5 := Lib.hid hown5; have HA5 := Lib.hid (HA4.out.grown HO4.out hgr5); have HB5 := Lib.hid (HB4.out.grown hgr5 hz4 (fun k hk => (HO4.out.lt k hk).1)); clear hown5 hgr5)))
              have HTX5 := Lib.hid (show ∀ q ∈ Lo ++ [(x, Value.slice a3 x.attrs.length c3)], q.1.text.length + tlen ((L.drop (k + 1)).map (·.1)) ≤ 1099511627776 from fun q hq => by
                have ht := HTL.out
                rw [HD.out, List.map_cons, tlen] at ht
                rcases List.mem_append.1 hq with hq | hq
                · have h := HTX.out q hq
                  rw [HD.out, List.map_cons, tlen] at h
                  omega
                · rw [List.mem_singleton.1 hq]
                  exact ht)
              have HTL5 := Lib.hid (show tlen ((L.drop (k + 1)).map (·.1)) ≤ 1099511627776 from by have h := HTL.out; rw [HD.out, List.map_cons, tlen] at h; omega)
              go_roundw
              case rel => exact ⟨k + 1, Lo ++ [(x, .slice a3 x.attrs.length c3)], by omega, by go_num, by rw [List.length_append]; show Lo.length + 1 ≤ _; omega, by rw [List.map_append]; exact HJN.out, by rw [List.length_append]; exact HO5.out, HA5.out, HB5.out, HTX5.out, HTL5.out⟩
              case measure => simp [intOf]; omega
      · have hkb : (x.kind != 1) = true := by simpa using hkd
        have HJN := Lib.hid (show joinF (Lo.map (·.1) ++ [x]) ((L.drop (k + 1)).map (·.1)) = J from by rw [← HJK.out, HD.out, List.map_cons, join_other hkd])
        have hzr := HBr.out.size
        have HE := Lib.hid (own_empty (w := wr.alloc (.cells #[.int .i64 x.kind, .string (strB x.name), .slice sa x.attrs.length sc, .bool x.self, .string (strB x.text)] 46)) (base := w.heap.size) (g := wr.heap.size + 1) (t := 56) (size := 2) (by simp) (by omega))
        have HSA2 := Lib.hid ((HSA.out.below ((Below.refl wr.heap.size wr).alloc (Nat.le_refl _) (.cells #[.int .i64 x.kind, .string (strB x.name), .slice sa x.attrs.length sc, .bool x.self, .string (strB x.text)] 46))).below ((Below.refl _ _).alloc (Nat.le_refl _) (.cells #[] 56)))
        have hz2 : w.heap.size ≤ ((wr.alloc (.cells #[.int .i64 x.kind, .string (strB x.name), .slice sa x.attrs.length sc, .bool x.self, .string (strB x.text)] 46)).alloc (.cells #[] 56)).heap.size := by simp; omega
        have hb1 : 0 + x.attrs.length ≤ maxLen := by unfold maxLen; omega
        have hb2 : (0 + x.attrs.length) * 32 ≤ 140737488355328 := by omega
        have hb3 : Lo.length + 1 ≤ maxLen := by unfold maxLen; omega
        have hb4 : (Lo.length + 1) * 72 ≤ 140737488355328 := by omega
        have HX2 : Hid (((wr.alloc (.cells #[.int .i64 x.kind, .string (strB x.name), .slice sa x.attrs.length sc, .bool x.self, .string (strB x.text)] 46)).alloc (.cells #[] 56)).heap[wr.heap.size]? = some (.cells #[.int .i64 x.kind, .string (strB x.name), .slice sa x.attrs.length sc, .bool x.self, .string (strB x.text)] 46 (0, 0))) := alloc_keep (heap_alloc_new _ _)
        have HO2 := Lib.hid ((HOr.out.alloc (.cells #[.int .i64 x.kind, .string (strB x.name), .slice sa x.attrs.length sc, .bool x.self, .string (strB x.text)] 46)).alloc (.cells #[] 56))
        have HA2 := Lib.hid (show AtsOwn w.heap.size Lo ((wr.alloc (.cells #[.int .i64 x.kind, .string (strB x.name), .slice sa x.attrs.length sc, .bool x.self, .string (strB x.text)] 46)).alloc (.cells #[] 56)) from fun p hp => ((HAr.out p hp).alloc _).alloc _)
        have HB2 := Lib.hid ((HBr.out.alloc hzr (.cells #[.int .i64 x.kind, .string (strB x.name), .slice sa x.attrs.length sc, .bool x.self, .string (strB x.text)] 46)).alloc (by simp; omega) (.cells #[] 56))
        have hzX : wr.heap.size < ((wr.alloc (.cells #[.int .i64 x.kind, .string (strB x.name), .slice sa x.attrs.length sc, .bool x.self, .string (strB x.text)] 46)).alloc (.cells #[] 56)).heap.size := by simp; omega
        have HOn : Hid (∀ g, (Value.slice ao Lo.length co).ownBlock = some g → g ≠ wr.heap.size) := fun g hg => Nat.ne_of_lt (HOr.out.lt g hg).2
        have HAn : Hid (∀ p ∈ Lo, ∀ g, p.2.ownBlock = some g → g ≠ wr.heap.size) := fun p hp g hg => Nat.ne_of_lt ((HAr.out p hp).lt g hg).2
        have HOne : Hid (∀ g, (Value.slice ao Lo.length co).ownBlock = some g → some g ≠ (Value.slice (some ⟨wr.heap.size + 1, 0, none⟩) 0 0).ownBlock) := fun g hg e => by
          have h1 := (HOr.out.lt g hg).2
          have h2 : g = wr.heap.size + 1 := Option.some.inj e
          omega
        have HAne : Hid (∀ p ∈ Lo, ∀ g, p.2.ownBlock = some g → some g ≠ (Value.slice (some ⟨wr.heap.size + 1, 0, none⟩) 0 0).ownBlock) := fun p hp g hg e => by
          have h1 := ((HAr.out p hp).lt g hg).2
          have h2 : g = wr.heap.size + 1 := Option.some.inj e
          omega
        have HXne : Hid (some wr.heap.size ≠ (Value.slice (some ⟨wr.heap.size + 1, 0, none⟩) 0 0).ownBlock) := fun e => by
          have h2 : wr.heap.size = wr.heap.size + 1 := Option.some.inj e
          omega
        have HBb : Hid (∀ k, (Value.slice (some ⟨wr.heap.size + 1, 0, none⟩) 0 0).ownBlock = some k → w.heap.size ≤ k) := fun k hk => by
          have h2 : wr.heap.size + 1 = k := Option.some.inj hk
          omega
        go_wp2_with (at_builtin; first
          | (refine wpList_append_slice _ rfl _ _ 44 rfl w.heap.size 56 j0' _ 2 32 Tryz.underlying44 hj hj0 hj1 hj2 rfl (by decide) _ 0 [] rfl HE.out sa x.attrs.length sc (pairsV (attP x.attrs)) rfl (by rw [pairsV_length, attP_length]) hsn HSA2.out (pairsV_one _) hb1 hb2 hz2 ?_; intro v3 w3 hown3 hgr3; rw [List.nil_append, Nat.zero_add] at hown3; obtain ⟨a3, c3, hv3, -, -, -, -⟩ := own_at hown3; subst hv3; generalize ((wr.alloc (.cells #[.int .i64 x.kind, .string (strB x.name), .slice sa x.attrs.length sc, .bool x.self, .string (strB x.text)] 46)).alloc (.cells #[] 56)) = W2 at *; have HX3 := Lib.hid ((hgr3.block wr.heap.size hzX HXne.out).trans HX2.out); obtain ⟨⟨y0, y1, y2, y3, y4⟩, z2⟩ := markX_cells HX3.out; have HO3 := Lib.hid (own_kept HO2.out fun g hg => hgr3.block g (HO2.out.lt g hg).2 (HOne.out g hg)); have HA3 := Lib.hid (show AtsOwn w.heap.size Lo w3 from fun p hp => own_kept (HA2.out p hp) fun g hg => hgr3.block g ((HA2.out p hp).lt g hg).2 (HAne.out p hp g hg)); have HB3 := Lib.hid (HB2.out.grown hgr3 hz2 HBb.out); have HOX := Lib.hid hown3; have hzX3 := Nat.lt_of_lt_of_le hzX hgr3.size; clear hown3 hgr3)
          | (go_must (have HO4 := Lib.hid ((own_kept (w' := w3.setCell ⟨wr.heap.size, 2, none⟩ (.slice a3 x.attrs.length c3)) HO3.out fun g hg => heap_setCell_other _ _ _ _ (HOn.out g hg)).alloc (.cells #[.int .i64 x.kind, .string (strB x.name), .slice a3 x.attrs.length c3, .bool x.self, .string (strB x.text)] 46)); have HN4 := Lib.hid ((at_alloc (w := w3.setCell ⟨wr.heap.size, 2, none⟩ (.slice a3 x.attrs.length c3)) (cur := #[.int .i64 x.kind, .string (strB x.name), .slice a3 x.attrs.length c3, .bool x.self, .string (strB x.text)]) (e := 46) (xs := markC (x, .slice a3 x.attrs.length c3)) (g := w3.heap.size) (by simp) rfl).news); have HA4 := Lib.hid (show AtsOwn w.heap.size (Lo ++ [(x, .slice a3 x.attrs.length c3)]) ((w3.setCell ⟨wr.heap.size, 2, none⟩ (.slice a3 x.attrs.length c3)).alloc (.cells #[.int .i64 x.kind, .string (strB x.name), .slice a3 x.attrs.length c3, .bool x.self, .string (strB x.text)] 46)) from fun p hp => World.ownsRow.alloc (by rcases List.mem_append.1 hp with hp | hp; exact own_kept (HA3.out p hp) fun g hg => heap_setCell_other _ _ _ _ (HAn.out p hp g hg); rw [List.mem_singleton.1 hp]; exact own_kept HOX.out fun g hg => heap_setCell_other _ _ _ _ fun eg => own_diff HOX.out (w := w3) (v' := .slice (some ⟨wr.heap.size, 0, none⟩) 1 1) (base' := 0) (t' := 46) (size' := 5) (n' := 1) (xs' := [.int .i64 x.kind, .string (strB x.name), .slice sa x.attrs.length sc, .bool x.self, .string (strB x.text)]) ⟨rfl, .inr ⟨wr.heap.size, 1, _, rfl, Nat.zero_le _, HX3.out, Nat.le_refl _, by decide, rfl, rfl⟩⟩ (by decide) g hg (by rw [eg]; rfl)) _); have HB4 := Lib.hid ((HB3.out.setCell (p := ⟨wr.heap.size, 2, none⟩) hzr (.slice a3 x.attrs.length c3)).alloc (by have := HB3.out.size; simp; omega) (.cells #[.int .i64 x.kind, .string (strB x.name), .slice a3 x.attrs.length c3, .bool x.self, .string (strB x.text)] 46)); have hz4 : w.heap.size ≤ ((w3.setCell ⟨wr.heap.size, 2, none⟩ (.slice a3 x.attrs.length c3)).alloc (.cells #[.int .i64 x.kind, .string (strB x.name), .slice a3 x.attrs.length c3, .bool x.self, .string (strB x.text)] 46)).heap.size := HB4.out.size; refine wpList_append_own _ rfl _ _ 23 rfl w.heap.size 46 i0' _ 5 72 Tryz.underlying23 hi hi0 hi1 hi2 rfl (by decide) _ Lo.length _ rfl HO4.out _ 1 1 (markC (x, .slice a3 x.attrs.length c3)) rfl rfl HN4.out (markC_one x a3 _ c3) hb3 hb4 hz4 ?_; intro v5 w5 hown5 hgr5 _; rw [← marksV_push] at hown5; have HO5 := Lib.hid hown5; have HA5 := Lib.hid (HA4.out.grown HO4.out hgr5); have HB5 := Lib.hid (HB4.out.grown hgr5 hz4 (fun k hk => (HO4.out.lt k hk).1)); clear hown5 hgr5)))
        have HTX5 := Lib.hid (show ∀ q ∈ Lo ++ [(x, Value.slice a3 x.attrs.length c3)], q.1.text.length + tlen ((L.drop (k + 1)).map (·.1)) ≤ 1099511627776 from fun q hq => by
          have ht := HTL.out
          rw [HD.out, List.map_cons, tlen] at ht
          rcases List.mem_append.1 hq with hq | hq
          · have h := HTX.out q hq
            rw [HD.out, List.map_cons, tlen] at h
            omega
          · rw [List.mem_singleton.1 hq]
            exact ht)
        have HTL5 := Lib.hid (show tlen ((L.drop (k + 1)).map (·.1)) ≤ 1099511627776 from by have h := HTL.out; rw [HD.out, List.map_cons, tlen] at h; omega)
        go_roundw
        case rel => exact ⟨k + 1, Lo ++ [(x, .slice a3 x.attrs.length c3)], by omega, by go_num, by rw [List.length_append]; show Lo.length + 1 ≤ _; omega, by rw [List.map_append]; exact HJN.out, by rw [List.length_append]; exact HO5.out, HA5.out, HB5.out, HTX5.out, HTL5.out⟩
        case measure => simp [intOf]; omega
    · obtain rfl : k = n := by omega
      go_wp2_with fail
      go_ret
      exact ⟨.slice ao Lo.length co, rfl, Lo, by rw [← HJK.out, List.drop_of_length_le (by rw [HN.out]; exact Nat.le_refl _)]; rfl, HOr.out, HAr.out, HBr.out⟩
end Go.Proofs.YtbabcohidpcjjaaGreat

/-
  Contract: marks.All: all marks of a text.
-/
namespace Go.Proofs.YtbabcohidpcjjaaGreat
open Go.RowKit Mem

/-- marks, or an error -/
def MarksAt (base : Nat) (o : List MarkD × Int) (r : Ending) (w' : World) : Prop :=
  (o.2 ≠ 0 ∧ o.1 = [] ∧ r = .returned (.tuple #[.slice none 0 0, .int .i64 o.2])) ∨
  (o.2 = 0 ∧ ∃ (v : Value) (L : MS), r = .returned (.tuple #[v, .int .i64 0]) ∧ L.map (·.1) = o.1 ∧ w'.ownsRow base 46 5 v L.length (marksV L) ∧ AtsOwn base L w')
theorem below_keeps {w w' : World} {b : Nat} {u : World} (h : Below w.heap.size w u) (hb : w.heap.size ≤ b) (k : Keeps (Only b) u w') : Below w.heap.size w w' :=
  h.trans ⟨k.os, k.tape, k.output, k.size, fun j hj => k.block j (Nat.lt_of_lt_of_le hj h.size) (fun e => by have e' : j = b := e; omega)⟩
theorem marksV_append (L M : MS) : marksV (L ++ M) = marksV L ++ marksV M := by
  unfold marksV; rw [List.flatMap_append]
theorem ats_at {base : Nat} {L : MS} {w : World} (h : AtsOwn base L w) (hf : ∀ p ∈ L, p.1.attrs.length ≤ 8) : AtsAt w L := fun p hp => by
  obtain ⟨ao, co, hv, -, -, h3, h4⟩ := own_at (h p hp)
  exact ⟨ao, co, hv, h3, h4, Nat.le_trans (hf p hp) (by decide)⟩
theorem marksV_one {base : Nat} {L : MS} {w : World} (h : AtsOwn base L w) : ∀ u ∈ marksV L, u.oneCell' = true := fun u hu => by
  obtain ⟨p, hp, hu⟩ := List.mem_flatMap.1 hu
  obtain ⟨ao, co, hv, -⟩ := own_at (h p hp)
  obtain ⟨x, v⟩ := p
  simp only at hv
  subst hv
  exact markC_one x ao _ co u hu
theorem ats_below {base : Nat} {L : MS} {w w' : World} (h : AtsOwn base L w) (hb : Below w.heap.size w w') : AtsOwn base L w' := fun p hp =>
  own_kept (h p hp) fun g hg => hb.block g ((h p hp).lt g hg).2
theorem own_below {base : Nat} {w w' : World} {t : TypeId} {size n : Nat} {v : Value} {xs : List Value} (h : w.ownsRow base t size v n xs) (hb : Below w.heap.size w w') : w'.ownsRow base t size v n xs :=
  own_kept h fun g hg => hb.block g (h.lt g hg).2
theorem ats_keeps {base b : Nat} {L : MS} {w w' : World} (h : AtsOwn base L w) (hb : b < base) (k : Keeps (Only b) w w') : AtsOwn base L w' := h.keeps hb k

set_option maxRecDepth 100000 in
set_option maxHeartbeats 4000000 in
theorem Marks_all (s : ByteArray) (y : Int) (w : World) (hm : maxAt w y) (hl : s.size ≤ 100000000) :
    Calls Tryz.prog 8 #[.string s] w fun r w' => MarksAt w.heap.size (marksF s.toList) r w' ∧ Below w.heap.size w w' := by
  obtain ⟨m1, hm1⟩ : ∃ m1 : MkM, m1 = { zeroM with buf := putF false s.toList, cr := putC false s.toList } := ⟨_, rfl⟩
  have hfe : feedF zeroM s.toList = m1 := by rw [hm1]; rfl
  have hpl := putF_len s.toList false
  rw [size_toList] at hpl
  have hb1 : m1.buf.length ≤ 3 * s.size := by rw [hm1]; exact hpl
  have hn1 : m1.name.length ≤ 4294967280 := by rw [hm1]; exact Nat.zero_le _
  have hi1 : InvM m1 := by rw [hm1]; exact ⟨putF_ok s.toList false, .inl rfl, fun h => by have : (0 : Int) = 1 ∨ (0 : Int) = 2 := h; omega⟩
  have he1 : ErrOk m1 := by rw [hm1]; exact .inl rfl
  have hd1 := drainF_room _ m1 (Nat.le_refl _) hn1
  have hq1 := drainF_ok _ m1 (Nat.le_refl _) hi1 he1
  have hdo := doM_le m1
  obtain ⟨p, hp⟩ : ∃ p, p = drainF m1 := ⟨_, rfl⟩
  rw [← hp] at hd1 hq1
  obtain ⟨m2, hm2⟩ : ∃ m2 : MkM, m2 = { p.2 with closed := true } := ⟨_, rfl⟩
  have hb2 : m2.buf.length ≤ 3 * s.size := by rw [hm2]; show p.2.buf.length ≤ _; omega
  have hn2 : m2.name.length ≤ 4294967280 := by rw [hm2]; exact hd1.2.2
  have hd2 := drainF_room _ m2 (Nat.le_refl _) hn2
  have hq2 := drainF_ok _ m2 (Nat.le_refl _) (by rw [hm2]; exact ⟨hq1.1.buf, hq1.1.name, hq1.1.pass⟩) (by rw [hm2]; exact hq1.2.1)
  have hdo2 := doM_le m2
  obtain ⟨q, hq⟩ : ∃ q, q = drainF m2 := ⟨_, rfl⟩
  rw [← hq] at hd2 hq2
  have hmf : marksF s.toList = if p.2.err ≠ 0 then ([], p.2.err) else if q.2.err ≠ 0 then ([], q.2.err) else (joinF [] (p.1 ++ q.1), 0) := by
    unfold marksF
    simp only
    rw [← hm1, ← hp, ← hm2, ← hq]
  have hff : ∀ x ∈ p.1 ++ q.1, x.attrs.length ≤ 8 := fun x hx => (List.mem_append.1 hx).elim (fun h => (hq1.2.2 x h).few) (fun h => (hq2.2.2 x h).few)
  replace hff := Lib.hid hff
  have htl : tlen (p.1 ++ q.1) ≤ 1099511627776 := by rw [tlen_append]; omega
  have hcp : p.1.length ≤ 1000000000 := by omega
  have hcq : q.1.length ≤ 1000000000 := by omega
  rw [hmf]
  have HM := Lib.hid hm
  have HP := Lib.hid hp
  have HQ := Lib.hid hq
  have HFE := Lib.hid hfe
  have HM2 := Lib.hid hm2
  have hpb : p.2.buf.length ≤ 4294967280 := by omega
  have hpn := hd1.2.2
  obtain ⟨i0', hi, hi0, hi1', hi2⟩ := info_parts info_mark
  clear hm hp hq hfe hm1 hm2 hmf hpl hi1 he1 hd1 hq1 hdo hd2 hq2 hdo2
  go_enter Tryz.func8, Tryz.ntmps8
  go_wp2_with fail
  refine (Open_any w).mono ?_
  rintro r W1 ⟨rfl, r1, k1⟩
  have HR1 := Lib.hid r1
  have HB1 := Lib.hid k1
  have HM1 := Lib.hid (max_below HM.out k1)
  have hz1 := k1.size
  clear r1 k1
  dsimp only
  go_wp2_with fail
  refine (Feed_any zeroM w.heap.size y s W1 HR1.out HM1.out (by show 0 + _ ≤ _; omega) (Nat.zero_le _)).mono ?_
  rw [HFE.out, ← HP.out]
  rintro r W2 ⟨hd, r2, k2⟩
  have HR2 := Lib.hid r2
  have HB2 := Lib.hid (below_keeps HB1.out (Nat.le_refl _) k2)
  have HM2' := Lib.hid (max_keeps HM1.out HR1.out k2)
  have hz2 := k2.size
  clear r2 k2
  rcases hd with ⟨h1, rfl⟩ | ⟨h1, va, L, rfl, h2, h3, h4⟩
  · have heb : (p.2.err != 0) = true := by simpa using h1
    dsimp only
    go_wp2_with fail
    go_ret2
    exact ⟨.inl ⟨h1, rfl, rfl⟩, HB2.out⟩
  · have hlt : w.heap.size < W1.heap.size := HR1.out.lt
    have H2 := Lib.hid h2
    have H3 := Lib.hid h3
    have H4 := Lib.hid h4
    clear h2 h3 h4
    dsimp only
    go_wp2_with fail
    refine (Close_any p.2 w.heap.size y W2 HR2.out HM2'.out hpb hpn).mono ?_
    rw [← HM2.out, ← HQ.out]
    rintro r W3 ⟨hd, r3, k3⟩
    have HB3 := Lib.hid (below_keeps HB2.out (Nat.le_refl _) k3)
    have H3b := Lib.hid (own_kept (w' := W3) H3.out fun g hg => k3.block g (H3.out.lt g hg).2 (fun e => by have e' : g = w.heap.size := e; have := (H3.out.lt g hg).1; omega))
    have H4b := Lib.hid (H4.out.keeps hlt k3)
    have hz3 := k3.size
    clear r3 k3
    rcases hd with ⟨h5, rfl⟩ | ⟨h5, vb, M, rfl, h6, h7, h8⟩
    · have heb : (q.2.err != 0) = true := by simpa using h5
      dsimp only
      go_wp2_with fail
      go_ret2
      exact ⟨.inl ⟨h5, rfl, rfl⟩, HB3.out⟩
    · obtain ⟨bo, bc, hvb, -, -, hb0, hbat⟩ := own_at h7
      subst hvb
      have H6 := Lib.hid h6
      have H7 := Lib.hid h7
      have H8 := Lib.hid h8
      have HBA := Lib.hid hbat
      have hll : L.length ≤ 1000000000 := by rw [← List.length_map (f := (·.1)), H2.out]; exact hcp
      have hml : M.length ≤ 1000000000 := by rw [← List.length_map (f := (·.1)), H6.out]; exact hcq
      have hb3 : L.length + M.length ≤ maxLen := by unfold maxLen; omega
      have hb4 : (L.length + M.length) * 72 ≤ 140737488355328 := by omega
      have hzw : w.heap.size ≤ W3.heap.size := by omega
      have hone := Lib.hid (marksV_one H8.out)
      clear h6 h7 h8 hbat
      dsimp only
      go_wp2_with (at_builtin; first
        | (refine wpList_append_slice _ rfl _ _ 23 rfl W1.heap.size 46 i0' _ 5 72 Tryz.underlying23 hi hi0 hi1' hi2 rfl (by decide) _ L.length _ rfl H3b.out bo M.length bc (marksV M) rfl (marksV_length M) hb0 HBA.out hone.out hb3 hb4 (by omega) ?_; intro v4 w4 hown4 hgr4; rw [← marksV_append, ← List.length_append] at hown4; obtain ⟨co, cc, hv4, -, -, hc0, hcat⟩ := own_at hown4; subst hv4; have HCA := Lib.hid hcat; have HL4 := Lib.hid (H4b.out.grown H3b.out hgr4); have HM4 := Lib.hid (H8.out.grown H3b.out hgr4); have HB4 := Lib.hid (HB3.out.grown hgr4 hzw (fun k hk => by have := (H3b.out.lt k hk).1; omega)); clear hown4 hgr4 hcat hc0))
      have HAT : Hid (AtsAt w4 (L ++ M)) := fun x hx => by
        rcases List.mem_append.1 hx with hx | hx
        · exact ats_at HL4.out (fun x hx => hff.out x.1 (by rw [← H2.out]; exact List.mem_append_left _ (List.mem_map_of_mem hx))) x hx
        · exact ats_at HM4.out (fun x hx => hff.out x.1 (by rw [← H6.out]; exact List.mem_append_right _ (List.mem_map_of_mem hx))) x hx
      have hlm : (L ++ M).length ≤ 10000000000 := by rw [List.length_append]; omega
      have hmap : (L ++ M).map (·.1) = p.1 ++ q.1 := by rw [List.map_append, H2.out, H6.out]
      have hJ := Join_any (L ++ M) co cc w4 HCA.out HAT.out hlm (by rw [hmap]; exact htl)
      rw [hmap, List.length_append] at hJ
      refine hJ.mono ?_
      rintro r W5 ⟨v5, Lo, rfl, j1, j2, j3, j4⟩
      have hz4 := HB4.out.size
      have J1 := Lib.hid j1
      have J2 := Lib.hid (own_base j2 hz4)
      have J3 := Lib.hid (j3.base hz4)
      have HB5 := Lib.hid (HB4.out.trans (j4.mono hz4))
      clear j1 j2 j3 j4
      dsimp only
      go_wp2_with fail
      go_ret2
      exact ⟨.inr ⟨rfl, v5, Lo, rfl, J1.out, J2.out, J3.out⟩, HB5.out⟩
end Go.Proofs.YtbabcohidpcjjaaGreat
