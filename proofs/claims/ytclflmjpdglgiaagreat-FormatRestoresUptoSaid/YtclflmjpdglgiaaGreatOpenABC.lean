import Derived.Test.YtclflmjpdglgiaaGreatTreeAll
import Derived.Test.YtclflmjpdglgiaaGreatRows
/-
  What a tree that is being made holds and what is asked of it: plain Lean, no Go. (Layer 14.)
-/
namespace Go.Proofs.YtclflmjpdglgiaaGreat
open Mem

def TreeD.get (T : TreeD) (n : Int) : Option ND := if 0 ≤ n then T.nodes[n.toNat]? else none
def isF (T : TreeD) (n : Int) : Bool := decide (1 ≤ n) && decide (n < (T.nodes.length : Int))
def elemF (T : TreeD) (n : Int) : Bool := isF T n && ((T.nodes[n.toNat]?).map (·.elem)).getD false
def holdsF (T : TreeD) (n : Int) : Bool := (n == 0) || elemF T n
/-- where a number stands in a list; -1: nowhere -/
def idxF : List Int → Int → Int → Int
  | [], _, _ => -1
  | y :: r, x, k => if y = x then k else idxF r x (k + 1)
def kidsF (T : TreeD) (n : Int) : List Int := ((T.nodes[n.toNat]?).map (·.kids)).getD []
def parentF (T : TreeD) (n : Int) : Int := ((T.nodes[n.toNat]?).map (·.parent)).getD (-1)
def placeF (T : TreeD) (parent before : Int) : Int := if before = 0 then (kidsF T parent).length else idxF (kidsF T parent) before 0

theorem idxF_step (l : List Int) (x : Int) (k : Nat) (h : k < l.length) (hne : l[k] ≠ x) (z : Int) : idxF (l.drop k) x z = idxF (l.drop (k + 1)) x (z + 1) := by
  rw [List.drop_eq_getElem_cons h, idxF, if_neg hne]
theorem idxF_hit (l : List Int) (x : Int) (k : Nat) (h : k < l.length) (he : l[k] = x) (z : Int) : idxF (l.drop k) x z = z := by
  rw [List.drop_eq_getElem_cons h, idxF, if_pos he]
theorem kidsF_of (T : TreeD) (i : Nat) (h : i < T.nodes.length) : kidsF T i = T.nodes[i].kids := by simp [kidsF, h]
theorem parentF_of (T : TreeD) (i : Nat) (h : i < T.nodes.length) : parentF T i = T.nodes[i].parent := by simp [parentF, h]
theorem elemF_of (T : TreeD) (i : Nat) (h1 : 1 ≤ i) (h : i < T.nodes.length) : elemF T i = T.nodes[i].elem := by
  have h2 : isF T i = true := by simp [isF]; omega
  rw [elemF, h2]
  simp [h]

/-- is top the number n, or above it? -/
inductive Reach (T : TreeD) (top : Int) : Int → Prop
  | here : Reach T top top
  | up {n : Int} : 0 < n → Reach T top (parentF T n) → Reach T top n
theorem reach_low {T : TreeD} {top n : Int} (h : n ≤ 0) : Reach T top n ↔ n = top := by
  constructor
  · intro hr
    cases hr with
    | here => rfl
    | up h0 _ => omega
  · rintro rfl
    exact .here
theorem reach_up {T : TreeD} {top n : Int} (h : 0 < n) (hne : n ≠ top) : Reach T top n ↔ Reach T top (parentF T n) := by
  constructor
  · intro hr
    cases hr with
    | here => exact absurd rfl hne
    | up _ hr => exact hr
  · exact .up h
noncomputable def belowF (T : TreeD) (n top : Int) : Bool := @decide (Reach T top n) (Classical.propDecidable _)
theorem belowF_congr {T : TreeD} {n m top : Int} (h : Reach T top n ↔ Reach T top m) : belowF T n top = belowF T m top := by
  simp only [belowF]
  exact @decide_eq_decide _ _ (Classical.propDecidable _) (Classical.propDecidable _) |>.2 h
theorem belowF_true {T : TreeD} {n top : Int} (h : Reach T top n) : belowF T n top = true := by simp [belowF, h]
theorem belowF_low {T : TreeD} {n top : Int} (h : n ≤ 0) : belowF T n top = (n == top) := by
  rw [Bool.eq_iff_iff]
  simp [belowF, reach_low h]

def upM (r : Int → Nat) (m : Int) : Nat := if 0 < m then r m + 1 else 0
theorem upM_lt (r : Int → Nat) (m p : Int) (hm : 0 < m) (h : 1 ≤ p → r p < r m) : upM r p < upM r m := by
  unfold upM
  rw [if_pos hm]
  split
  · have := h (by omega); omega
  · omega

/-- a tree is one: parents and kids tell the same, nobody is above itself -/
structure WF (T : TreeD) : Prop where
  pos : 0 < T.nodes.length
  root : parentF T 0 = -1
  par : ∀ i : Nat, i < T.nodes.length → -1 ≤ parentF T i ∧ parentF T i < T.nodes.length
  kid : ∀ i : Nat, i < T.nodes.length → ∀ k ∈ kidsF T i, 1 ≤ k ∧ k < T.nodes.length ∧ parentF T k = i
  mem : ∀ i : Nat, i < T.nodes.length → 0 ≤ parentF T i → (i : Int) ∈ kidsF T (parentF T i)
  nodup : ∀ i : Nat, i < T.nodes.length → (kidsF T i).Nodup
  rank : ∃ r : Int → Nat, ∀ i : Nat, i < T.nodes.length → 1 ≤ parentF T i → r (parentF T i) < r i
  holds : ∀ i : Nat, i < T.nodes.length → kidsF T i ≠ [] → holdsF T i = true
end Go.Proofs.YtclflmjpdglgiaaGreat

/-
  Contracts: what only reads a tree: (*open.Tree).Len, is, elem, holds, place: what each computes; the world stays.
-/
namespace Go.Proofs.YtclflmjpdglgiaaGreat
open Go.RowKit Mem

abbrev TreeO (w : World) (tb g : Nat) (T : TreeD) : Prop := TreeAt 68 73 w tb g T

section
variable (T : TreeD) (tb g : Nat) (w : World)
theorem len_any (h : TreeO w tb g T) : Calls Tryz.prog 10 #[.pointer (some ⟨tb, 0, none⟩)] w fun e w' => e = .returned (.int .i64 ((T.nodes.length : Int) - 1)) ∧ w = w' := by
  obtain ⟨cap, h1, h2, c0, _, _, _⟩ := h.head
  unfold maxLen at h2
  clear h
  go_enter Tryz.func10, Tryz.ntmps10
  go_wp2
  go_ret
  exact ⟨rfl, rfl⟩

theorem is_any (n : Int) (h : TreeO w tb g T) : Calls Tryz.prog 78 #[.pointer (some ⟨tb, 0, none⟩), .int .i64 n] w fun e w' => e = .returned (.bool (isF T n)) ∧ w = w' := by
  obtain ⟨cap, h1, h2, c0, _, _, _⟩ := h.head
  unfold maxLen at h2
  have HP : Hid (isF T n = (decide (1 ≤ n) && decide (n < (T.nodes.length : Int)))) := by show _ = _; rfl
  clear h
  by_cases hn : 1 ≤ n
  all_goals
    go_enter Tryz.func78, Tryz.ntmps78
    go_wp2
    go_ret
    exact ⟨ret_bool (by rw [HP.out]; first | (simp [hn]; done) | (simp; omega)), rfl⟩

theorem elem_any (n : Int) (h : TreeO w tb g T) : Calls Tryz.prog 74 #[.pointer (some ⟨tb, 0, none⟩), .int .i64 n] w fun e w' => e = .returned (.bool (elemF T n)) ∧ w = w' := by
  have HC := Lib.hid (is_any T tb g w n h)
  cases hi : isF T n
  · have HP : Hid (elemF T n = false) := by show _ = _; rw [elemF, hi]; rfl
    rw [hi] at HC
    clear h
    go_enter Tryz.func74, Tryz.ntmps74
    go_wp2_with (go_at_call 78; refine HC.out.mono ?_; rintro e w1 ⟨rfl, rfl⟩)
    go_ret
    exact ⟨ret_bool HP.out.symm, rfl⟩
  · have hb : 1 ≤ n ∧ n < (T.nodes.length : Int) := by simpa [isF] using hi
    obtain ⟨i, rfl⟩ := Int.eq_ofNat_of_zero_le (by omega : 0 ≤ n)
    have hlt : i < T.nodes.length := by omega
    have HP : Hid (elemF T i = T.nodes[i].elem) := by show _ = _; exact elemF_of T i (by omega) hlt
    obtain ⟨cap, h1, h2, c0, _, _, _⟩ := h.head
    obtain ⟨aa, ac, ka, kc, _, _, _, _, _, _, _, _, hc, _⟩ := h.node hlt
    have d0 := hc 0 _ rfl
    rw [Nat.add_zero] at d0
    unfold maxLen at h2
    rw [hi] at HC
    clear h hc hi
    go_enter Tryz.func74, Tryz.ntmps74
    go_wp2_with (go_at_call 78; refine HC.out.mono ?_; rintro e w1 ⟨rfl, rfl⟩)
    go_ret
    exact ⟨ret_bool HP.out.symm, rfl⟩

theorem holds_any (n : Int) (h : TreeO w tb g T) : Calls Tryz.prog 77 #[.pointer (some ⟨tb, 0, none⟩), .int .i64 n] w fun e w' => e = .returned (.bool (holdsF T n)) ∧ w = w' := by
  have HC := Lib.hid (elem_any T tb g w n h)
  clear h
  by_cases hn : n = 0
  · have HP : Hid (holdsF T n = true) := by show _ = _; rw [holdsF, hn]; rfl
    subst hn
    go_enter Tryz.func77, Tryz.ntmps77
    go_wp2_with fail
    go_ret
    exact ⟨ret_bool HP.out.symm, rfl⟩
  · have hn' : (n == 0) = false := by simpa using hn
    have HP : Hid (holdsF T n = elemF T n) := by show _ = _; rw [holdsF, hn']; rfl
    clear hn
    go_enter Tryz.func77, Tryz.ntmps77
    go_wp2_with (go_at_call 74; refine HC.out.mono ?_; rintro e w1 ⟨rfl, rfl⟩)
    go_ret
    exact ⟨ret_bool HP.out.symm, rfl⟩

theorem place_any (parent : Nat) (before : Int) (hp : parent < T.nodes.length) (h : TreeO w tb g T) :
    Calls Tryz.prog 79 #[.pointer (some ⟨tb, 0, none⟩), .int .i64 parent, .int .i64 before] w fun e w' => e = .returned (.int .i64 (placeF T parent before)) ∧ w = w' := by
  obtain ⟨cap, h1, h2, c0, _, _, _⟩ := h.head
  obtain ⟨aa, ac, ka, kc, _, _, _, hk1, hk2, _, _, hk, hc, _⟩ := h.node hp
  have d6 := hc 6 _ rfl
  obtain ⟨l, hl⟩ : ∃ l, l = T.nodes[parent].kids := ⟨_, rfl⟩
  rw [← hl] at d6 hk hk1
  have HK := Lib.hid hk.at
  have HL : Hid (kidsF T parent = l) := by show _ = _; rw [kidsF_of T parent hp, hl]
  unfold maxLen at h2 hk2
  clear h hc hk hl
  by_cases hb : before = 0
  · have HP : Hid (placeF T parent before = l.length) := by show _ = _; rw [placeF, if_pos hb, HL.out]
    subst hb
    go_enter Tryz.func79, Tryz.ntmps79
    go_wp2_with fail
    go_ret
    exact ⟨ret_int HP.out.symm, rfl⟩
  · have hb' : (before == 0) = false := by simpa using hb
    have HP : Hid (placeF T parent before = idxF l before 0) := by show _ = _; rw [placeF, if_neg hb, HL.out]
    clear hb
    go_enter Tryz.func79, Tryz.ntmps79
    go_wp2_with fail
    go_loop [24] (fun i => ∃ k : Nat, k ≤ l.length ∧ i = .int .i64 k ∧ idxF l before 0 = idxF (l.drop k) before k) (fun i => l.length - (intOf i).toNat)
    case atStart => exact ⟨0, Nat.zero_le _, rfl, rfl⟩
    case round =>
      obtain ⟨k, hk, rfl, hv⟩ := hrel
      have HV := Lib.hid hv
      clear hv
      by_cases hlt : k < l.length
      · obtain ⟨b, o, rfl, e1⟩ := HK.out _ _ (intsV_get l k hlt)
        by_cases he : l[k] = before
        · have he' : (l[k] == before) = true := by simpa using he
          have HE := Lib.hid he
          clear he
          go_wp2_with fail
          go_ret
          exact ⟨ret_int (by rw [HP.out, HV.out, idxF_hit l before k hlt HE.out]), rfl⟩
        · have he' : (l[k] == before) = false := by simpa using he
          have HE := Lib.hid he
          clear he
          go_wp2_with fail
          go_round
          case rel => exact ⟨k + 1, by omega, by go_num, by rw [HV.out, idxF_step l before k hlt HE.out]; rfl⟩
          case measure => simp [intOf]; omega
      · go_wp2_with fail
        go_ret
        exact ⟨ret_int (by rw [HP.out, HV.out, List.drop_of_length_le (by omega)]; rfl), rfl⟩

theorem below_any (n top : Int) (hn : n < T.nodes.length) (hw : WF T) (h : TreeO w tb g T) :
    Calls Tryz.prog 80 #[.pointer (some ⟨tb, 0, none⟩), .int .i64 n, .int .i64 top] w fun e w' => e = .returned (.bool (belowF T n top)) ∧ w = w' := by
  obtain ⟨cap, h1, h2, c0, _, _, _⟩ := h.head
  obtain ⟨r, hr⟩ := hw.rank
  have HR := Lib.hid hr
  have HW := Lib.hid hw
  have HT := Lib.hid h
  unfold maxLen at h2
  clear h hw hr
  go_enter Tryz.func80, Tryz.ntmps80
  go_wp2_with fail
  go_loop [1] (fun x => ∃ m : Int, m < T.nodes.length ∧ x = .int .i64 m ∧ belowF T n top = belowF T m top) (fun x => upM r (intOf x))
  case atStart => exact ⟨n, hn, rfl, rfl⟩
  case round =>
    obtain ⟨m, hm, rfl, hv⟩ := hrel
    have HV := Lib.hid hv
    clear hv
    by_cases hp : 0 < m
    · by_cases he : m = top
      · have HE : Hid (belowF T m top = true) := by show _ = _; rw [he]; exact belowF_true .here
        have he' : (m == top) = true := by simpa using he
        clear he
        go_wp2_with fail
        go_ret
        exact ⟨ret_bool (by rw [HV.out, HE.out]), rfl⟩
      · have HE : Hid (belowF T m top = belowF T (parentF T m) top) := belowF_congr (reach_up hp he)
        have he' : (m == top) = false := by simpa using he
        clear he
        obtain ⟨i, rfl⟩ := Int.eq_ofNat_of_zero_le (by omega : 0 ≤ m)
        have hi : i < T.nodes.length := by omega
        obtain ⟨aa, ac, ka, kc, _, _, _, _, _, _, _, _, hc, _⟩ := HT.out.node hi
        have d5 := hc 5 _ rfl
        have HP : Hid (parentF T i = T.nodes[i].parent) := parentF_of T i hi
        have hpar := HW.out.par i hi
        rw [HP.out] at hpar
        clear hc
        go_wp2_with fail
        go_round
        case rel => exact ⟨T.nodes[i].parent, hpar.2, rfl, by rw [HV.out, HE.out, HP.out]⟩
        case measure =>
          have hlt2 := HR.out i hi
          rw [HP.out] at hlt2
          exact upM_lt r i T.nodes[i].parent hp hlt2
    · have HE : Hid (belowF T m top = (m == top)) := belowF_low (by omega)
      go_wp2_with fail
      go_ret
      exact ⟨ret_bool (by rw [HV.out, HE.out]), rfl⟩

theorem parent_any (n : Int) (h : TreeO w tb g T) :
    Calls Tryz.prog 76 #[.pointer (some ⟨tb, 0, none⟩), .int .i64 n] w fun e w' => e = .returned (.int .i64 (if isF T n then parentF T n else -1)) ∧ w = w' := by
  have HC := Lib.hid (is_any T tb g w n h)
  cases hi : isF T n
  · rw [hi] at HC
    clear h
    go_enter Tryz.func76, Tryz.ntmps76
    go_wp2_with (go_at_call 78; refine HC.out.mono ?_; rintro e w1 ⟨rfl, rfl⟩)
    go_ret
    exact ⟨rfl, rfl⟩
  · have hb : 1 ≤ n ∧ n < (T.nodes.length : Int) := by simpa [isF] using hi
    obtain ⟨i, rfl⟩ := Int.eq_ofNat_of_zero_le (by omega : 0 ≤ n)
    have hlt : i < T.nodes.length := by omega
    have HP : Hid (parentF T i = T.nodes[i].parent) := parentF_of T i hlt
    obtain ⟨cap, h1, h2, c0, _, _, _⟩ := h.head
    obtain ⟨aa, ac, ka, kc, _, _, _, _, _, _, _, _, hc, _⟩ := h.node hlt
    have d5 := hc 5 _ rfl
    unfold maxLen at h2
    rw [hi] at HC
    clear h hc hi
    go_enter Tryz.func76, Tryz.ntmps76
    go_wp2_with (go_at_call 78; refine HC.out.mono ?_; rintro e w1 ⟨rfl, rfl⟩)
    go_ret
    exact ⟨ret_int (by rw [HP.out]), rfl⟩

theorem Is_any (n : Int) (h : TreeO w tb g T) : Calls Tryz.prog 84 #[.pointer (some ⟨tb, 0, none⟩), .int .i64 n] w fun e w' => e = .returned (.bool (elemF T n)) ∧ w = w' := by
  have HC := Lib.hid (elem_any T tb g w n h)
  clear h
  go_enter Tryz.func84, Tryz.ntmps84
  go_wp2_with (go_at_call 74; refine HC.out.mono ?_; rintro e w1 ⟨rfl, rfl⟩)
  go_ret
  exact ⟨rfl, rfl⟩
end
end Go.Proofs.YtclflmjpdglgiaaGreat

/-
  Contracts: (*open.Tree).Kids, What: what each tells is new memory; the world behind has new blocks alone.
-/
namespace Go.Proofs.YtclflmjpdglgiaaGreat
open Go.RowKit Mem

def kidsQ (T : TreeD) (n : Int) : List Int := if 0 ≤ n ∧ n < T.nodes.length then kidsF T n else []
theorem info_int : (Tryz.prog.info? 3).map (fun i => (i.zero, i.size, i.bytes)) = some (some (.int .i64 0), 1, 8) := by kernel_rfl

section
variable (T : TreeD) (tb g : Nat) (w : World)
set_option maxRecDepth 100000 in
set_option maxHeartbeats 1000000 in
theorem kids_any (n : Int) (h : TreeO w tb g T) (hsz : ∀ i (h : i < T.nodes.length), T.nodes[i].kids.length ≤ 2097152) :
    Calls Tryz.prog 20 #[.pointer (some ⟨tb, 0, none⟩), .int .i64 n] w fun e w' => ∃ v, e = .returned v ∧ w'.ownsRow w.heap.size 3 1 v (kidsQ T n).length (intsV (kidsQ T n)) ∧ Below w.heap.size w w' := by
  obtain ⟨cap, h1, h2, c0, _, _, _⟩ := h.head
  unfold maxLen at h2
  by_cases hn : n < 0
  · have HQ : Hid (kidsQ T n = []) := by show _ = _; rw [kidsQ, if_neg (by omega)]
    clear h
    go_enter Tryz.func20, Tryz.ntmps20
    go_wp2_with fail
    go_ret
    exact ⟨_, rfl, by rw [HQ.out]; exact World.ownsRow_nil _ _ _ _, Below.refl _ _⟩
  · by_cases hge : (T.nodes.length : Int) ≤ n
    · have HQ : Hid (kidsQ T n = []) := by show _ = _; rw [kidsQ, if_neg (by omega)]
      clear h
      go_enter Tryz.func20, Tryz.ntmps20
      go_wp2_with fail
      go_ret
      exact ⟨_, rfl, by rw [HQ.out]; exact World.ownsRow_nil _ _ _ _, Below.refl _ _⟩
    · obtain ⟨i, rfl⟩ := Int.eq_ofNat_of_zero_le (by omega : 0 ≤ n)
      have hlt : i < T.nodes.length := by omega
      obtain ⟨aa, ac, ka, kc, _, _, _, hk1, hk2, hk3, _, hk, hc, _⟩ := h.node hlt
      obtain ⟨ht1, ht2⟩ := h.lt
      have d6 := hc 6 _ rfl
      have hszi := hsz i hlt
      obtain ⟨l, hl⟩ : ∃ l, l = T.nodes[i].kids := ⟨_, rfl⟩
      rw [← hl] at d6 hk hk1 hszi
      have HQ : Hid (kidsQ T i = l) := by show _ = _; rw [kidsQ, if_pos (by omega), kidsF_of T i hlt, hl]
      have HK := Lib.hid (hk.at.below ((Below.refl _ _).alloc (Nat.le_refl _) (.cells #[] 3)))
      have HE : Hid ((w.alloc (.cells #[] 3)).ownsRow w.heap.size 3 1 (.slice (some ⟨w.heap.size, 0, none⟩) 0 0) 0 []) := World.ownsRow_lit w #[] 0 (Nat.le_refl _) (Nat.zero_le _) rfl
      have H3 := Lib.hid hk3.nil
      obtain ⟨i0, hi, hz0, hz1, hz2⟩ := info_parts info_int
      have b0 : 0 + l.length ≤ maxLen := by unfold maxLen; omega
      have b1 : (0 + l.length) * 8 ≤ 140737488355328 := by omega
      have hnl : (intsV l).length = l.length * 1 := by rw [intsV_length, Nat.mul_one]
      have HNL := Lib.hid hnl
      have HZ : Hid (w.heap.size ≤ (w.alloc (.cells #[] 3)).heap.size) := by show _ ≤ _; simp
      clear h hc hk hl hk3 hsz hnl
      go_enter Tryz.func20, Tryz.ntmps20
      go_wp2_with (at_builtin; refine wpList_append_slice _ rfl _ _ 30 rfl w.heap.size 3 i0 _ 1 8 Tryz.underlying30 hi hz0 hz1 hz2 rfl (by decide) _ 0 [] rfl HE.out ka l.length kc (intsV l) rfl HNL.out H3.out HK.out (intsV_one l) b0 b1 HZ.out ?_; intro v2 w2 hown2 hgr2; simp only [Nat.zero_add, List.nil_append] at hown2; have HO2 := Lib.hid hown2; have HG2 := Lib.hid hgr2; clear hown2 hgr2)
      go_ret
      exact ⟨_, rfl, by rw [HQ.out]; exact HO2.out, ((Below.refl _ _).alloc (Nat.le_refl _) _).grown HG2.out HZ.out (fun b h => (HE.out.lt b h).1)⟩
end
end Go.Proofs.YtclflmjpdglgiaaGreat

/-
  Contracts: open.New: a tree of the root alone, in new blocks.
-/
namespace Go.Proofs.YtclflmjpdglgiaaGreat
open Go.RowKit Mem

def rootN : ND := ⟨false, 0, ⟨#[]⟩, [], ⟨#[]⟩, -1, []⟩

theorem heap_new_at {w : World} {o : Obj} {n : Nat} (h : w.heap.size = n) : (w.alloc o).heap[n]? = some o := by
  subst h
  exact heap_alloc_new w o

theorem New_any (most : Int) (w : World) : Calls Tryz.prog 13 #[.int .i64 most] w fun e w' =>
    ∃ tb g, e = .returned (.pointer (some ⟨tb, 0, none⟩)) ∧ TreeO w' tb g ⟨[rootN], most, noFar⟩ ∧ w.heap.size ≤ tb ∧ w.heap.size ≤ g ∧ Below w.heap.size w w' := by
  go_enter Tryz.func13, Tryz.ntmps13
  go_wp2
  go_ret
  refine ⟨w.heap.size + 1, w.heap.size, ret_eq (by simp), ?_, by omega, by omega, ?_⟩
  · refine ⟨1, [cells7 rootN none 0 none 0], by omega, heap_new_at (by simp), ?_, rfl, ?_, fun k hk => False.elim hk⟩
    · refine own_below (w := w.alloc _) (World.ownsRow_lit w (cells7 rootN none 0 none 0).toArray 1 (Nat.zero_le _) (by decide) rfl) ((Below.refl _ _).alloc (Nat.le_refl _) _)
    · intro i h h'
      simp at h
      subst h
      exact ⟨none, 0, none, 0, rfl, Nat.le_refl _, by decide, fun _ => rfl, Nat.le_refl _, by decide, .inl ⟨rfl, rfl⟩, fun j u hj => by simp [rootN, pairsV] at hj, fun j u hj => by simp [rootN, intsV] at hj⟩
  · exact ((Below.refl _ _).alloc (Nat.le_refl _) _).alloc (by simp) _
end Go.Proofs.YtclflmjpdglgiaaGreat
