import Derived.Test.YtbabcohidpcjjaaGreatZRefA
import Derived.Test.YtbabcohidpcjjaaGreatZMem
import Derived.Lib.IndexAny
import Derived.Lib.Index
/-
  A page as marks: plain Lean over lists of bytes, no Go. (Layer 13.) No conditions beyond those that each lemma types.
-/
namespace Go.Proofs.YtbabcohidpcjjaaGreat
open Mem

structure MarkD where
  kind : Int
  name : Str
  attrs : List (Str × Str)
  self : Bool
  text : Str
def bareM (k : Int) : MarkD := ⟨k, [], [], false, []⟩
def textM (t : Str) : MarkD := ⟨1, [], [], false, t⟩
/-- the machine that reads -/
structure MkM where
  buf : Str
  cr : Bool
  closed : Bool
  mode : Int
  name : Str
  cdata : Bool
  pass : Int
  kind : Int
  fresh : Bool
  err : Int
def zeroM : MkM := ⟨[], false, false, 0, [], false, 0, 0, false, 0⟩

def spaceB (c : UInt8) : Bool := c == 9 || c == 10 || c == 12 || c == 32
def letterB (c : UInt8) : Bool := (decide (97 ≤ c) && decide (c ≤ 122)) || (decide (65 ≤ c) && decide (c ≤ 90))
/-- spaces and strokes between attributes -/
def gapB (c : UInt8) : Bool := spaceB c || c == 47

/-! a text as it comes -/
def putOne (cr : Bool) (c : UInt8) : Str := if c = 10 ∧ cr = true then [] else if c = 13 then [10] else if c = 0 then [239, 191, 189] else [c]
def putF : Bool → Str → Str
  | _, [] => []
  | cr, c :: r => putOne cr c ++ putF (c == 13) r
def putC : Bool → Str → Bool
  | cr, [] => cr
  | _, c :: r => putC (c == 13) r

/-! tags -/
def untilF (sg s : Str) : Option (Str × Str) :=
  if s.dropWhile (fun c => !sg.contains c) = [] then none else some (s.takeWhile (fun c => !sg.contains c), s.dropWhile (fun c => !sg.contains c))
theorem untilF_len {sg s t r : Str} (h : untilF sg s = some (t, r)) : t.length + r.length = s.length ∧ 1 ≤ r.length := by
  unfold untilF at h
  split at h
  · cases h
  · rename_i hne
    simp only [Option.some.injEq, Prod.mk.injEq] at h
    obtain ⟨rfl, rfl⟩ := h
    have := congrArg List.length (List.takeWhile_append_dropWhile (p := fun c => !sg.contains c) (l := s))
    rw [List.length_append] at this
    exact ⟨this, List.length_pos_iff.2 hne⟩
theorem dropWhile_len (p : UInt8 → Bool) (s : Str) : (s.dropWhile p).length ≤ s.length := by
  have := congrArg List.length (List.takeWhile_append_dropWhile (p := p) (l := s))
  rw [List.length_append] at this
  omega
def signT : Str := [9, 10, 12, 32, 47, 62]
def signA : Str := [9, 10, 12, 32, 47, 62, 61]
def signV : Str := [9, 10, 12, 32, 62]
/-- a value behind its =, and what follows it -/
def valueF (r : Str) : Option (Str × Str) := match r.dropWhile spaceB with
  | [] => none
  | q :: r1 => if q = 34 ∨ q = 39 then (untilF [q] r1).map fun p => (p.1, p.2.drop 1) else untilF signV (q :: r1)
theorem valueF_len {r v t : Str} (h : valueF r = some (v, t)) : t.length ≤ r.length := by
  have h0 := dropWhile_len spaceB r
  unfold valueF at h
  split at h
  · cases h
  · rename_i q r1 he
    rw [he] at h0
    split at h
    · cases hu : untilF [q] r1 with
      | none => rw [hu] at h; cases h
      | some p =>
        rw [hu] at h
        simp only [Option.map_some, Option.some.injEq, Prod.mk.injEq] at h
        have := (untilF_len hu).1
        rw [← h.2, List.length_drop]
        simp only [List.length_cons] at h0
        omega
    · have := (untilF_len h).1
      omega
def attrF : Str → Option ((Str × Str) × Str)
  | [] => none
  | c :: r => match untilF signA r with
    | none => none
    | some (t, r2) => match r2.dropWhile spaceB with
      | [] => none
      | d :: r4 => if d = 61 then (valueF r4).map fun p => ((lowS (c :: t), allS p.1 true), p.2) else some ((lowS (c :: t), []), d :: r4)
theorem attrF_len {s r : Str} {a : Str × Str} (h : attrF s = some (a, r)) : r.length < s.length := by
  cases s with
  | nil => cases h
  | cons c s =>
    simp only [attrF] at h
    split at h
    · cases h
    · rename_i t r2 hu
      have h1 := (untilF_len hu).1
      have h2 := dropWhile_len spaceB r2
      split at h
      · cases h
      · rename_i d r4 he
        rw [he] at h2
        simp only [List.length_cons] at h2 ⊢
        split at h
        · cases hv : valueF r4 with
          | none => rw [hv] at h; cases h
          | some p =>
            rw [hv] at h
            simp only [Option.map_some, Option.some.injEq, Prod.mk.injEq] at h
            have := valueF_len hv
            rw [← h.2]
            omega
        · simp only [Option.some.injEq, Prod.mk.injEq] at h
          rw [← h.2]
          simp only [List.length_cons]
          omega
def hasA (l : List (Str × Str)) (n : Str) : Bool := l.any fun a => a.1 == n
/-- a tag's attributes, whether it ends itself, what follows it -/
def tagsF (as : List (Str × Str)) (r : Str) : Option (List (Str × Str) × Bool × Str) :=
  match r.dropWhile gapB with
  | [] => none
  | c :: r1 => if c = 62 then some (as, (r.takeWhile gapB).getLast? == some 47, r1) else
    match attrF (c :: r1) with
    | none => none
    | some (a, r2) => if r2.length < r.length then tagsF (if hasA as a.1 then as else as ++ [a]) r2 else none
termination_by r.length
/-- a tag at the front of a text: the mark, its bytes (below 0: it has no end), the error -/
def parseF (s : Str) (e : Bool) : MarkD × Int × Int :=
  match untilF signT (s.drop (if e then 2 else 1)) with
  | none => (bareM 0, -1, 0)
  | some (nm, r) => match tagsF [] r with
    | none => (bareM 0, -1, 0)
    | some (as, sl, r2) =>
      if e then (⟨3, lowS nm, [], false, []⟩, (s.length : Int) - r2.length, 0)
      else if 8 < as.length then (bareM 0, (s.length : Int) - r2.length, 42)
      else (⟨2, lowS nm, as, sl, []⟩, (s.length : Int) - r2.length, 0)

/-! what stands at a < -/
def foldsF (s word : Str) : Bool × Bool :=
  if lowS (s.take (min s.length word.length)) ≠ word.take (min s.length word.length) then (false, false)
  else (min s.length word.length == word.length, decide (min s.length word.length < word.length))
def unlessF (closed : Bool) (is : Int) : Int := if closed then is else 1
def endsF (m : MkM) (s : Str) : Int :=
  if (foldsF s ([60, 47] ++ m.name)).2 = true ∨ ((foldsF s ([60, 47] ++ m.name)).1 = true ∧ s.length = m.name.length + 2) then unlessF m.closed 0
  else if (foldsF s ([60, 47] ++ m.name)).1 = true ∧ (gapB (s.getD (m.name.length + 2) 0) || s.getD (m.name.length + 2) 0 == 62) = true then 3
  else 0
def cdataW : Str := [60, 33, 91, 67, 68, 65, 84, 65, 91]
def docW : Str := [60, 33, 100, 111, 99, 116, 121, 112, 101]
def comW : Str := [60, 33, 45, 45]
def declF (m : MkM) (s : Str) : Int :=
  if (foldsF s comW).1 then 5
  else if (foldsF s docW).1 then 6
  else if cdataW.isPrefixOf s ∧ m.cdata = true then 7
  else if (foldsF s comW).2 ∨ (foldsF s docW).2 ∨ (s.isPrefixOf cdataW ∧ m.cdata = true) then unlessF m.closed 8
  else 8
def lookF (m : MkM) (s : Str) : Int :=
  if m.mode ≠ 0 then endsF m s
  else match s with
  | _ :: c :: r =>
    if letterB c then 2 else if c = 63 then 8 else if c = 33 then declF m s else if c ≠ 47 then 0
    else match r with
      | [] => unlessF m.closed 0
      | d :: _ => if letterB d then 3 else if d = 62 then 4 else 8
  | _ => unlessF m.closed 0

/-- a text up to what is none: the text, what is left, what stands there -/
def textF (m : MkM) (s : Str) : Str × Str × Int :=
  match s with
  | [] => ([], [], 1)
  | c :: r =>
    if c = 60 then (if lookF m (c :: r) = 0 then (60 :: (textF m r).1, (textF m r).2) else ([], c :: r, lookF m (c :: r)))
    else if c = 38 ∧ m.mode ≠ 2 then
      (if m.closed = false ∧ moreF (c :: r) = true then ([], c :: r, 1)
      else ((if (takeF (c :: r) false).2 = 0 then [38] else (takeF (c :: r) false).1) ++ (textF m (r.drop ((takeF (c :: r) false).2 - 1))).1, (textF m (r.drop ((takeF (c :: r) false).2 - 1))).2))
    else (c :: (textF m r).1, (textF m r).2)
termination_by s.length
decreasing_by all_goals (simp only [List.length_drop, List.length_cons]; omega)

/-! the machine's steps: the mark, whether it is told, whether it stops -/
abbrev Out := MarkD × Bool × Bool × MkM
def noM : MarkD := bareM 0
def doneF (m : MkM) (n : Nat) : Out := (bareM m.kind, true, false, { m with buf := m.buf.drop n, pass := 0 })
def setF (m : MkM) (mode : Int) (name : Str) : MkM :=
  if name ≠ [] ∧ decide (97 ≤ name.headD 0) = true ∧ name.all (fun c => (decide (97 ≤ c) && decide (c ≤ 122)) || (decide (48 ≤ c) && decide (c ≤ 57))) = true ∧ (mode = 1 ∨ mode = 2)
  then { m with mode := mode, name := name } else { m with mode := 0, name := [] }
def refW : List Str := [([116, 105, 116, 108, 101] : List UInt8), ([116, 101, 120, 116, 97, 114, 101, 97] : List UInt8)]
def rawW : List Str := [([115, 116, 121, 108, 101] : List UInt8), ([115, 99, 114, 105, 112, 116] : List UInt8), ([120, 109, 112] : List UInt8), ([105, 102, 114, 97, 109, 101] : List UInt8), ([110, 111, 101, 109, 98, 101, 100] : List UInt8), ([110, 111, 102, 114, 97, 109, 101, 115] : List UInt8)]
def switchF (m : MkM) (x : MarkD) : MkM :=
  if x.kind ≠ 2 then m else if refW.contains x.name then setF m 1 x.name else if rawW.contains x.name then setF m 2 x.name else m
def tagF (m : MkM) (e : Bool) : Out :=
  let s := m.buf.take 2049
  let p := parseF s e
  let er := if p.2.1 > 2048 ∨ (p.2.1 < 0 ∧ 2048 < s.length) then 41 else p.2.2
  if er ≠ 0 then (noM, false, true, { m with err := er, buf := [] })
  else if p.2.1 < 0 then (noM, false, true, if m.closed then { m with buf := [] } else m)
  else (p.1, true, false, if e then { m with buf := m.buf.drop p.2.1.toNat, mode := 0 } else { m with buf := m.buf.drop p.2.1.toNat })
def stepF (m : MkM) : Out :=
  let p := textF m m.buf
  let m1 := { m with buf := p.2.1 }
  if p.1 ≠ [] then (textM p.1, true, false, m1)
  else if p.2.2 = 2 then tagF m1 false
  else if p.2.2 = 3 then tagF m1 true
  else if p.2.2 = 4 then (noM, false, false, { m1 with buf := m1.buf.drop 3 })
  else if p.2.2 = 5 then (noM, false, false, { m1 with pass := 1, kind := 4, fresh := true, buf := m1.buf.drop 4 })
  else if p.2.2 = 6 then (noM, false, false, { m1 with pass := 2, kind := 5 })
  else if p.2.2 = 7 then (noM, false, false, { m1 with pass := 3, buf := m1.buf.drop 9 })
  else if p.2.2 = 8 then (noM, false, false, { m1 with pass := 2, kind := 4 })
  else (noM, false, true, m1)
def comEnd : Str := [45, 45, 62]
def comEnd2 : Str := [45, 45, 33, 62]
def cdEnd : Str := [93, 93, 62]
def comLater (m : MkM) : Out :=
  let a := Lib.index m.buf comEnd
  let b := Lib.index m.buf comEnd2
  if 0 ≤ a ∧ (b < 0 ∨ a < b) then doneF m (a.toNat + 3)
  else if 0 ≤ b then doneF m (b.toNat + 4)
  else if m.closed then doneF m m.buf.length
  else (noM, false, true, { m with buf := m.buf.drop (m.buf.length - 3) })
def comF (m : MkM) : Out :=
  if m.fresh then
    if ([62] : Str).isPrefixOf m.buf then doneF m 1
    else if ([45, 62] : Str).isPrefixOf m.buf then doneF m 2
    else if m.closed = false ∧ (m.buf = [] ∨ m.buf = [45]) then (noM, false, true, m)
    else comLater { m with fresh := false }
  else comLater m
def cdF (m : MkM) : Out :=
  let n := Lib.index m.buf cdEnd
  if 0 ≤ n then (textM (m.buf.take n.toNat), m.buf.take n.toNat ≠ [], false, { m with buf := m.buf.drop (n.toNat + 3), pass := 0 })
  else if m.closed then (textM m.buf, m.buf ≠ [], false, { m with buf := [], pass := 0 })
  else (textM (m.buf.take (m.buf.length - 2)), m.buf.take (m.buf.length - 2) ≠ [], m.pass ≠ 0, { m with buf := m.buf.drop (m.buf.length - 2) })
def passF (m : MkM) : Out :=
  if m.pass = 1 then comF m
  else if m.pass = 2 then
    if 0 ≤ Lib.indexByte m.buf 62 then doneF m ((Lib.indexByte m.buf 62).toNat + 1)
    else if m.closed then doneF m m.buf.length
    else (noM, false, true, { m with buf := [] })
  else cdF m
/-- how much there is to do -/
def doM (m : MkM) : Nat := if m.pass = 0 then 2 * m.buf.length else if m.pass = 2 then (if m.buf = [] then 1 else 2 * m.buf.length - 1) else 2 * m.buf.length + 1
def oneF (m : MkM) : Out := if m.pass = 0 then stepF m else passF m
def readF (m : MkM) : Option MarkD × MkM :=
  if m.err ≠ 0 then (none, m) else
  if (oneF m).2.1 then (some (oneF m).1, (oneF m).2.2.2) else if (oneF m).2.2.1 then (none, (oneF m).2.2.2)
  else if doM (oneF m).2.2.2 < doM m then readF (oneF m).2.2.2 else (none, m)
termination_by doM m
def drainF (m : MkM) : List MarkD × MkM :=
  match readF m with
  | (none, m1) => ([], m1)
  | (some x, m1) => if doM (switchF m1 x) < doM m then (x :: (drainF (switchF m1 x)).1, (drainF (switchF m1 x)).2) else ([], m1)
termination_by doM m
def joinF : List MarkD → List MarkD → List MarkD
  | out, [] => out
  | out, x :: r =>
    if x.kind ≠ 1 then joinF (out ++ [x]) r
    else if x.text = [] then joinF out r
    else match out.getLast? with
      | some y => if y.kind = 1 then joinF (out.dropLast ++ [{ y with text := y.text ++ x.text }]) r else joinF (out ++ [x]) r
      | none => joinF (out ++ [x]) r
end Go.Proofs.YtbabcohidpcjjaaGreat

/-
  What marks' machine tells has its form: plain Lean over XMkSpec, no Go.
-/
namespace Go.Proofs.YtbabcohidpcjjaaGreat
open Mem

def OkB (s : Str) : Prop := ∀ c ∈ s, c ≠ 0 ∧ c ≠ 13
theorem OkB.suffix {s t : Str} (h : OkB s) (ht : t <:+ s) : OkB t := fun c hc => h c (ht.subset hc)
theorem OkB.drop {s : Str} (h : OkB s) (n : Nat) : OkB (s.drop n) := h.suffix (List.drop_suffix n s)
theorem OkB.append {s t : Str} (h : OkB s) (k : OkB t) : OkB (s ++ t) := fun c hc => (List.mem_append.1 hc).elim (h c) (k c)
theorem putOne_ok (cr : Bool) (c : UInt8) : OkB (putOne cr c) := by
  intro d hd
  unfold putOne at hd
  split at hd
  · cases hd
  · split at hd
    · obtain rfl := List.mem_singleton.1 hd; decide
    · split at hd
      · simp only [List.mem_cons, List.not_mem_nil, or_false] at hd
        rcases hd with rfl | rfl | rfl <;> decide
      · obtain rfl := List.mem_singleton.1 hd
        exact ⟨by assumption, by assumption⟩
theorem putF_ok : ∀ (s : Str) (cr : Bool), OkB (putF cr s)
  | [], _ => fun _ h => by cases h
  | c :: r, cr => (putOne_ok cr c).append (putF_ok r _)

theorem untilF_eq {sg s t r : Str} (h : untilF sg s = some (t, r)) : t = s.takeWhile (fun c => !sg.contains c) ∧ r = s.dropWhile (fun c => !sg.contains c) ∧ t ++ r = s := by
  unfold untilF at h
  split at h
  · cases h
  · simp only [Option.some.injEq, Prod.mk.injEq] at h
    obtain ⟨rfl, rfl⟩ := h
    exact ⟨rfl, rfl, List.takeWhile_append_dropWhile⟩
theorem untilF_suffix {sg s t r : Str} (h : untilF sg s = some (t, r)) : r <:+ s ∧ ∀ c ∈ t, c ∈ s := by
  have := (untilF_eq h).2.2
  exact ⟨⟨t, this⟩, fun c hc => by rw [← this]; exact List.mem_append_left _ hc⟩
theorem valueF_suffix {r v t : Str} (h : valueF r = some (v, t)) : t <:+ r := by
  have h0 : r.dropWhile spaceB <:+ r := List.dropWhile_suffix _
  unfold valueF at h
  split at h
  · cases h
  · rename_i q r1 he
    rw [he] at h0
    split at h
    · cases hu : untilF [q] r1 with
      | none => rw [hu] at h; cases h
      | some p =>
        rw [hu] at h
        simp only [Option.map_some, Option.some.injEq, Prod.mk.injEq] at h
        rw [← h.2]
        exact (List.drop_suffix _ _).trans ((untilF_suffix hu).1.trans ((List.suffix_cons q r1).trans h0))
    · exact (untilF_suffix h).1.trans h0
/-- no large letter, no 0, no CR -/
def Nm (c : UInt8) : Prop := ¬ (65 ≤ c ∧ c ≤ 90) ∧ c ≠ 0 ∧ c ≠ 13
theorem low_all : ∀ c : UInt8, c ≠ 0 ∧ c ≠ 13 → Nm (lowB c) := by
  have h : ∀ n : Fin 256, (UInt8.ofNat n.1 ≠ 0 ∧ UInt8.ofNat n.1 ≠ 13) → (¬ (65 ≤ lowB (UInt8.ofNat n.1) ∧ lowB (UInt8.ofNat n.1) ≤ 90) ∧ lowB (UInt8.ofNat n.1) ≠ 0 ∧ lowB (UInt8.ofNat n.1) ≠ 13) := by decide +kernel
  intro c hc
  have := h ⟨c.toNat, c.toNat_lt⟩
  simp only [UInt8.ofNat_toNat] at this
  exact this hc
theorem lowS_nm {s : Str} (h : OkB s) : ∀ c ∈ lowS s, Nm c := by
  intro c hc
  obtain ⟨d, hd, rfl⟩ := List.mem_map.1 hc
  exact low_all d (h d hd)
theorem attrF_good {s r : Str} {a : Str × Str} (hs : OkB s) (h : attrF s = some (a, r)) : r <:+ s ∧ a.1 ≠ [] ∧ ∀ c ∈ a.1, Nm c := by
  cases s with
  | nil => cases h
  | cons c s =>
    simp only [attrF] at h
    split at h
    · cases h
    · rename_i t r2 hu
      have h1 := untilF_suffix hu
      have h2 : r2.dropWhile spaceB <:+ r2 := List.dropWhile_suffix _
      have hn : lowS (c :: t) ≠ [] := by simp [lowS]
      have hm : ∀ d ∈ lowS (c :: t), Nm d := lowS_nm fun d hd => by
        rcases List.mem_cons.1 hd with rfl | hd
        · exact hs d List.mem_cons_self
        · exact hs d (List.mem_cons_of_mem _ (h1.2 d hd))
      have h3 : r2 <:+ c :: s := h1.1.trans (List.suffix_cons c s)
      split at h
      · cases h
      · rename_i d r4 he
        rw [he] at h2
        split at h
        · cases hv : valueF r4 with
          | none => rw [hv] at h; cases h
          | some p =>
            rw [hv] at h
            simp only [Option.map_some, Option.some.injEq, Prod.mk.injEq] at h
            rw [← h.1, ← h.2]
            exact ⟨(valueF_suffix hv).trans ((List.suffix_cons d r4).trans (h2.trans h3)), hn, hm⟩
        · simp only [Option.some.injEq, Prod.mk.injEq] at h
          rw [← h.1, ← h.2]
          exact ⟨h2.trans h3, hn, hm⟩
def AtsOk (as : List (Str × Str)) : Prop := (∀ a ∈ as, a.1 ≠ [] ∧ ∀ c ∈ a.1, Nm c) ∧ as.Pairwise fun a b => a.1 ≠ b.1
theorem AtsOk.nil : AtsOk [] := ⟨fun _ h => (by cases h), List.Pairwise.nil⟩
theorem AtsOk.push {as : List (Str × Str)} (h : AtsOk as) {a : Str × Str} (ha : a.1 ≠ [] ∧ ∀ c ∈ a.1, Nm c) : AtsOk (if hasA as a.1 then as else as ++ [a]) := by
  cases hh : hasA as a.1
  · rw [if_neg (by simp)]
    refine ⟨fun b hb => ?_, List.pairwise_append.2 ⟨h.2, List.pairwise_singleton _ _, fun b hb c hc => ?_⟩⟩
    · rcases List.mem_append.1 hb with hb | hb
      · exact h.1 b hb
      · rw [List.mem_singleton.1 hb]; exact ha
    · rw [List.mem_singleton.1 hc]
      intro e
      have : hasA as a.1 = true := List.any_eq_true.2 ⟨b, hb, by rw [e]; simp⟩
      rw [hh] at this
      cases this
  · rw [if_pos rfl]; exact h
theorem tagsF_good : ∀ (n : Nat) (as : List (Str × Str)) (r : Str), r.length ≤ n → OkB r → AtsOk as → ∀ as' sl r', tagsF as r = some (as', sl, r') → AtsOk as' ∧ r' <:+ r := by
  intro n
  induction n with
  | zero =>
    intro as r hn _ _ as' sl r' h
    obtain rfl : r = [] := List.eq_nil_of_length_eq_zero (by omega)
    rw [tagsF] at h
    cases h
  | succ n ih =>
    intro as r hn hr ha as' sl r' h
    rw [tagsF] at h
    have h0 : r.dropWhile gapB <:+ r := List.dropWhile_suffix _
    split at h
    · cases h
    · rename_i c r1 he
      rw [he] at h0
      split at h
      · simp only [Option.some.injEq, Prod.mk.injEq] at h
        rw [← h.1, ← h.2.2]
        exact ⟨ha, (List.suffix_cons c r1).trans h0⟩
      · split at h
        · cases h
        · rename_i a r2 hat
          have hg := attrF_good (hr.suffix h0) hat
          split at h
          · rename_i hlt
            have := ih _ r2 (by omega) (hr.suffix (hg.1.trans h0)) (ha.push hg.2) _ _ _ h
            exact ⟨this.1, this.2.trans (hg.1.trans h0)⟩
          · cases h

structure GoodMark (x : MarkD) : Prop where
  kind : 1 ≤ x.kind ∧ x.kind ≤ 5
  tag : (x.kind = 2 ∨ x.kind = 3) ↔ x.name ≠ []
  text : x.kind = 1 ↔ x.text ≠ []
  few : x.attrs.length ≤ 8
  only : x.kind ≠ 2 → x.attrs = [] ∧ x.self = false
  name : ∀ c ∈ x.name, Nm c
  ats : AtsOk x.attrs

/-- a letter at the name's place: the tag's name is not empty -/
theorem until_letter {c : UInt8} {r t r' : Str} (hl : letterB c = true) (h : untilF signT (c :: r) = some (t, r')) : t ≠ [] := by
  have := (untilF_eq h).1
  have hc : ∀ n : Fin 256, letterB (UInt8.ofNat n.1) = true → signT.contains (UInt8.ofNat n.1) = false := by decide +kernel
  have hc' : signT.contains c = false := by
    have := hc ⟨c.toNat, c.toNat_lt⟩
    simp only [UInt8.ofNat_toNat] at this
    exact this hl
  rw [List.takeWhile_cons, if_pos (by rw [hc']; rfl)] at this
  rw [this]
  simp
theorem parseF_good (s : Str) (e : Bool) : (parseF s e).2.2 = 0 ∨ (parseF s e).2.2 = 42 := by
  unfold parseF
  repeat' split
  all_goals simp
theorem parseF_mark {s : Str} {e : Bool} (hs : OkB s) (hd : ∃ c r, s.drop (if e then 2 else 1) = c :: r ∧ letterB c = true) (h0 : 0 ≤ (parseF s e).2.1) (he : (parseF s e).2.2 = 0) : GoodMark (parseF s e).1 := by
  obtain ⟨c, r, hcr, hl⟩ := hd
  unfold parseF at h0 he ⊢
  split at h0
  · exact absurd h0 (by simp)
  · rename_i nm r1 hu
    simp only [hu] at h0 he ⊢
    have hn : nm ≠ [] := until_letter hl (by rw [hcr] at hu; exact hu)
    have hu2 := untilF_suffix hu
    have hok : OkB (s.drop (if e then 2 else 1)) := hs.drop _
    have hnm : ∀ d ∈ lowS nm, Nm d := lowS_nm fun d hd => hok d (hu2.2 d hd)
    have hl0 : lowS nm ≠ [] := by simpa [lowS] using hn
    split at h0
    · exact absurd h0 (by simp)
    · rename_i as sl r2 ht
      simp only [ht] at h0 he ⊢
      have hg := tagsF_good _ [] r1 (Nat.le_refl _) (hok.suffix hu2.1) AtsOk.nil _ _ _ ht
      cases e
      · simp only [Bool.false_eq_true, if_false] at he ⊢
        split at he
        · cases he
        · rename_i h8
          rw [if_neg h8]
          exact ⟨⟨by show (1 : Int) ≤ 2; omega, by show (2 : Int) ≤ 5; omega⟩, ⟨fun _ => hl0, fun _ => .inl rfl⟩, ⟨fun h => absurd h (by show ¬ (2 : Int) = 1; omega), fun h => absurd rfl h⟩, by show as.length ≤ 8; omega, fun h => absurd rfl h, hnm, hg.1⟩
      · simp only [if_true]
        exact ⟨⟨by show (1 : Int) ≤ 3; omega, by show (3 : Int) ≤ 5; omega⟩, ⟨fun _ => hl0, fun _ => .inr rfl⟩, ⟨fun h => absurd h (by show ¬ (3 : Int) = 1; omega), fun h => absurd rfl h⟩, by show 0 ≤ 8; omega, fun _ => ⟨rfl, rfl⟩, hnm, AtsOk.nil⟩

/-! what stands at a < -/
def NameOk (m : MkM) : Prop := m.mode = 0 ∨ ∃ c r, m.name = c :: r ∧ (97 ≤ c ∧ c ≤ 122)
theorem unless_two (b : Bool) (k : Int) (_ : k = 0 ∨ k = 8) : unlessF b k = k ∨ unlessF b k = 1 := by unfold unlessF; cases b <;> simp
theorem decl_vals (m : MkM) (s : Str) : declF m s = 1 ∨ 5 ≤ declF m s := by
  unfold declF
  repeat' split
  all_goals first | (right; omega) | (rcases unless_two m.closed 8 (.inr rfl) with h | h <;> rw [h] <;> omega)
theorem ends_vals (m : MkM) (s : Str) : endsF m s = 0 ∨ endsF m s = 1 ∨ endsF m s = 3 := by
  unfold endsF
  repeat' split
  all_goals first | (rcases unless_two m.closed 0 (.inl rfl) with h | h <;> rw [h] <;> simp) | simp
theorem look_tag {m : MkM} {r : Str} (h : lookF m (60 :: r) = 2) : ∃ c r', r = c :: r' ∧ letterB c = true := by
  unfold lookF at h
  split at h
  · rcases ends_vals m (60 :: r) with e | e | e <;> rw [e] at h <;> cases h
  · split at h
    · rename_i c r' he
      simp only [List.cons.injEq] at he
      refine ⟨c, r', he.2, ?_⟩
      split at h
      · assumption
      · split at h
        · cases h
        · split at h
          · rcases decl_vals m (60 :: r) with e | e <;> omega
          · split at h
            · cases h
            · split at h
              · rcases unless_two m.closed 0 (.inl rfl) with e | e <;> rw [e] at h <;> cases h
              · repeat' split at h
                all_goals cases h
    · rcases unless_two m.closed 0 (.inl rfl) with e | e <;> rw [e] at h <;> cases h
theorem low_letter : ∀ d : UInt8, 97 ≤ lowB d → lowB d ≤ 122 → letterB d = true := by
  have h : ∀ n : Fin 256, 97 ≤ lowB (UInt8.ofNat n.1) → lowB (UInt8.ofNat n.1) ≤ 122 → letterB (UInt8.ofNat n.1) = true := by decide +kernel
  intro d
  have := h ⟨d.toNat, d.toNat_lt⟩
  simp only [UInt8.ofNat_toNat] at this
  exact this
theorem low_47 : ∀ d : UInt8, lowB d = 47 → d = 47 := by
  have h : ∀ n : Fin 256, lowB (UInt8.ofNat n.1) = 47 → UInt8.ofNat n.1 = 47 := by decide +kernel
  intro d
  have := h ⟨d.toNat, d.toNat_lt⟩
  simp only [UInt8.ofNat_toNat] at this
  exact this
theorem folds_whole {s word : Str} (h : (foldsF s word).1 = true) : word.length ≤ s.length ∧ lowS (s.take word.length) = word := by
  unfold foldsF at h
  split at h
  · cases h
  · rename_i hh
    have hmin : min s.length word.length = word.length := by simpa using h
    rw [hmin, List.take_of_length_le (Nat.le_refl _)] at hh
    exact ⟨by omega, by simpa using hh⟩
theorem look_end {m : MkM} {r : Str} (hn : NameOk m) (h : lookF m (60 :: r) = 3) : ∃ d r', r = 47 :: d :: r' ∧ letterB d = true := by
  unfold lookF at h
  split at h
  · rename_i hm
    unfold endsF at h
    split at h
    · rcases unless_two m.closed 0 (.inl rfl) with e | e <;> rw [e] at h <;> cases h
    · split at h
      · rename_i hw
        obtain ⟨hlen, hlow⟩ := folds_whole hw.1
        obtain ⟨c, rn, hcr, hc1, hc2⟩ := hn.resolve_left hm
        rw [hcr] at hlow hlen
        simp only [List.cons_append, List.nil_append, List.length_cons] at hlow hlen
        match r, hlen, hlow with
        | [], hlen, _ => simp at hlen
        | [_], hlen, _ => simp at hlen
        | a :: d :: r', _, hlow =>
          simp only [List.take_succ_cons, lowS, List.map_cons, List.cons.injEq] at hlow
          refine ⟨d, r', ?_, low_letter d (by rw [hlow.2.2.1]; exact hc1) (by rw [hlow.2.2.1]; exact hc2)⟩
          rw [low_47 a hlow.2.1]
      · cases h
  · split at h
    · rename_i c r' he
      simp only [List.cons.injEq] at he
      obtain ⟨_, rfl⟩ := he
      split at h
      · cases h
      · split at h
        · cases h
        · split at h
          · rcases decl_vals m (60 :: c :: r') with e | e <;> omega
          · rename_i h47
            split at h
            · cases h
            · rename_i hc
              split at h
              · rcases unless_two m.closed 0 (.inl rfl) with e | e <;> rw [e] at h <;> cases h
              · rename_i d r'' 
                split at h
                · exact ⟨d, r'', by rw [Classical.not_not.1 hc], by assumption⟩
                · split at h <;> cases h
    · rcases unless_two m.closed 0 (.inl rfl) with e | e <;> rw [e] at h <;> cases h

/-! a text up to what is none -/
theorem textF_spec (m : MkM) : ∀ (n : Nat) (s : Str), s.length ≤ n → (textF m s).2.1 <:+ s ∧ ((textF m s).2.2 = 1 ∨ ∃ r, (textF m s).2.1 = 60 :: r ∧ lookF m (60 :: r) = (textF m s).2.2 ∧ (textF m s).2.2 ≠ 0) := by
  intro n
  induction n with
  | zero =>
    intro s hs
    obtain rfl : s = [] := List.eq_nil_of_length_eq_zero (by omega)
    rw [textF]
    exact ⟨List.suffix_refl _, .inl rfl⟩
  | succ n ih =>
    intro s hs
    cases s with
    | nil => rw [textF]; exact ⟨List.suffix_refl _, .inl rfl⟩
    | cons c r =>
      simp only [List.length_cons] at hs
      have step : ∀ k, (textF m (r.drop k)).2.1 <:+ c :: r ∧ ((textF m (r.drop k)).2.2 = 1 ∨ ∃ q, (textF m (r.drop k)).2.1 = 60 :: q ∧ lookF m (60 :: q) = (textF m (r.drop k)).2.2 ∧ (textF m (r.drop k)).2.2 ≠ 0) := fun k => by
        have := ih (r.drop k) (by rw [List.length_drop]; omega)
        exact ⟨this.1.trans ((List.drop_suffix k r).trans (List.suffix_cons c r)), this.2⟩
      rw [textF]
      split
      · rename_i h60
        split
        · exact step 0
        · rename_i hl
          refine ⟨List.suffix_refl _, ?_⟩
          subst h60
          exact .inr ⟨r, rfl, rfl, hl⟩
      · split
        · split
          · exact ⟨List.suffix_refl _, .inl rfl⟩
          · exact step _
        · exact step 0

/-! the machine -/
structure InvM (m : MkM) : Prop where
  buf : OkB m.buf
  name : NameOk m
  pass : (m.pass = 1 ∨ m.pass = 2) → (m.kind = 4 ∨ m.kind = 5)
def ErrOk (m : MkM) : Prop := m.err = 0 ∨ m.err = 41 ∨ m.err = 42
/-- a step's answer -/
structure OutOk (m : MkM) (o : Out) : Prop where
  inv : InvM o.2.2.2
  mark : o.2.1 = true → GoodMark o.1
  told : o.2.1 = true → o.2.2.2.err = m.err
  err : o.2.2.2.err = m.err ∨ o.2.2.2.err = 41 ∨ o.2.2.2.err = 42
theorem bare_good {k : Int} (h : k = 4 ∨ k = 5) : GoodMark (bareM k) := by
  have e : (bareM k).kind = k := rfl
  refine ⟨by rw [e]; omega, ⟨fun h' => by rw [e] at h'; omega, fun h' => absurd rfl h'⟩, ⟨fun h' => by rw [e] at h'; omega, fun h' => absurd rfl h'⟩, Nat.zero_le _, fun _ => ⟨rfl, rfl⟩, fun _ h' => (by cases h'), AtsOk.nil⟩
theorem text_good {t : Str} (h : t ≠ []) : GoodMark (textM t) :=
  ⟨⟨by show (1 : Int) ≤ 1; omega, by show (1 : Int) ≤ 5; omega⟩, ⟨fun h' => by have : (1 : Int) = 2 ∨ (1 : Int) = 3 := h'; omega, fun h' => absurd rfl h'⟩, ⟨fun _ => h, fun _ => rfl⟩, Nat.zero_le _, fun _ => ⟨rfl, rfl⟩, fun _ h' => (by cases h'), AtsOk.nil⟩
theorem done_ok {m : MkM} (h : InvM m) (hp : m.pass = 1 ∨ m.pass = 2) (n : Nat) : OutOk m (doneF m n) :=
  ⟨⟨h.buf.drop n, h.name, fun h' => by have : (0 : Int) = 1 ∨ (0 : Int) = 2 := h'; omega⟩, fun _ => bare_good (h.pass hp), fun _ => rfl, .inl rfl⟩
theorem quiet_ok {m m' : MkM} {st : Bool} (h : InvM m') (he : m'.err = m.err) : OutOk m (noM, false, st, m') := ⟨h, fun h' => (by cases h'), fun h' => (by cases h'), .inl he⟩
theorem comLater_ok {m : MkM} (h : InvM m) (hp : m.pass = 1 ∨ m.pass = 2) : OutOk m (comLater m) := by
  unfold comLater
  simp only
  split
  · exact done_ok h hp _
  · split
    · exact done_ok h hp _
    · split
      · exact done_ok h hp _
      · exact quiet_ok ⟨h.buf.drop _, h.name, h.pass⟩ rfl
theorem comF_ok {m : MkM} (h : InvM m) (hp : m.pass = 1 ∨ m.pass = 2) : OutOk m (comF m) := by
  unfold comF
  split
  · split
    · exact done_ok h hp _
    · split
      · exact done_ok h hp _
      · split
        · exact quiet_ok h rfl
        · have := comLater_ok (m := { m with fresh := false }) ⟨h.buf, h.name, h.pass⟩ hp
          exact ⟨this.inv, this.mark, this.told, this.err⟩
  · exact comLater_ok h hp
theorem OkB.nil : OkB [] := fun _ h => by cases h
theorem cdF_ok {m : MkM} (h : InvM m) (hp : ¬ (m.pass = 1 ∨ m.pass = 2)) : OutOk m (cdF m) := by
  unfold cdF
  simp only
  split
  · exact ⟨⟨h.buf.drop _, h.name, fun h' => by have : (0 : Int) = 1 ∨ (0 : Int) = 2 := h'; omega⟩, fun h' => text_good (by simpa using h'), fun _ => rfl, .inl rfl⟩
  · split
    · exact ⟨⟨OkB.nil, h.name, fun h' => by have : (0 : Int) = 1 ∨ (0 : Int) = 2 := h'; omega⟩, fun h' => text_good (by simpa using h'), fun _ => rfl, .inl rfl⟩
    · exact ⟨⟨h.buf.drop _, h.name, fun h' => absurd h' hp⟩, fun h' => text_good (by simpa using h'), fun _ => rfl, .inl rfl⟩
theorem passF_ok {m : MkM} (h : InvM m) : OutOk m (passF m) := by
  unfold passF
  split
  · exact comF_ok h (.inl ‹_›)
  · split
    · split
      · exact done_ok h (.inr ‹_›) _
      · split
        · exact done_ok h (.inr ‹_›) _
        · exact quiet_ok ⟨OkB.nil, h.name, h.pass⟩ rfl
    · exact cdF_ok h (by omega)
theorem OkB.take {s : Str} (h : OkB s) (n : Nat) : OkB (s.take n) := fun c hc => h c (List.mem_of_mem_take hc)
theorem tagF_ok {m : MkM} {e : Bool} (h : InvM m) (hd : ∃ c r, m.buf.drop (if e then 2 else 1) = c :: r ∧ letterB c = true) : OutOk m (tagF m e) := by
  have hd' : ∃ c r, (m.buf.take 2049).drop (if e then 2 else 1) = c :: r ∧ letterB c = true := by
    obtain ⟨c, r, h1, h2⟩ := hd
    refine ⟨c, r.take (2049 - (if e then 2 else 1) - 1), ?_, h2⟩
    rw [List.drop_take, h1]
    cases e <;> rfl
  have hok : OkB (m.buf.take 2049) := h.buf.take _
  have hpar := parseF_good (m.buf.take 2049) e
  unfold tagF
  simp only
  obtain ⟨er, her⟩ : ∃ er, er = if (parseF (m.buf.take 2049) e).2.1 > 2048 ∨ ((parseF (m.buf.take 2049) e).2.1 < 0 ∧ 2048 < (m.buf.take 2049).length) then (41 : Int) else (parseF (m.buf.take 2049) e).2.2 := ⟨_, rfl⟩
  rw [← her]
  have h41 : er ≠ 0 → er = 41 ∨ er = 42 := fun h0 => by
    by_cases hc : (parseF (m.buf.take 2049) e).2.1 > 2048 ∨ ((parseF (m.buf.take 2049) e).2.1 < 0 ∧ 2048 < (m.buf.take 2049).length)
    · rw [if_pos hc] at her; exact .inl her
    · rw [if_neg hc] at her; exact .inr (her.trans (hpar.resolve_left fun h => h0 (her.trans h)))
  have h00 : er = 0 → (parseF (m.buf.take 2049) e).2.2 = 0 := fun h0 => by
    by_cases hc : (parseF (m.buf.take 2049) e).2.1 > 2048 ∨ ((parseF (m.buf.take 2049) e).2.1 < 0 ∧ 2048 < (m.buf.take 2049).length)
    · rw [if_pos hc] at her; rw [h0] at her; cases her
    · rw [if_neg hc] at her; rw [← her]; exact h0
  clear her
  by_cases h0 : er = 0
  · rw [if_neg (fun h => h h0)]
    by_cases hn : (parseF (m.buf.take 2049) e).2.1 < 0
    · rw [if_pos hn]
      by_cases hc : m.closed = true
      · rw [if_pos hc]; exact quiet_ok ⟨OkB.nil, h.name, h.pass⟩ rfl
      · rw [if_neg hc]; exact quiet_ok h rfl
    · rw [if_neg hn]
      have hg := parseF_mark hok hd' (by omega) (h00 h0)
      cases e
      · exact ⟨⟨h.buf.drop _, h.name, h.pass⟩, fun _ => hg, fun _ => rfl, .inl rfl⟩
      · exact ⟨⟨h.buf.drop _, .inl rfl, h.pass⟩, fun _ => hg, fun _ => rfl, .inl rfl⟩
  · rw [if_pos h0]
    exact ⟨⟨OkB.nil, h.name, h.pass⟩, fun h' => (by cases h'), fun h' => (by cases h'), .inr (h41 h0)⟩
theorem stepF_ok {m : MkM} (h : InvM m) (h0 : m.pass = 0) : OutOk m (stepF m) := by
  obtain ⟨hs, hk⟩ := textF_spec m _ m.buf (Nat.le_refl _)
  have hi : InvM { m with buf := (textF m m.buf).2.1 } := ⟨h.buf.suffix hs, h.name, h.pass⟩
  have hp0 : ¬ (m.pass = 1 ∨ m.pass = 2) := by omega
  have tag2 : (textF m m.buf).2.2 = 2 → ∃ c r, (textF m m.buf).2.1.drop 1 = c :: r ∧ letterB c = true := fun e => by
    rcases hk with hk | ⟨r, h1, h2, _⟩
    · omega
    · rw [e] at h2
      obtain ⟨c, r', rfl, hl⟩ := look_tag h2
      exact ⟨c, r', by rw [h1]; rfl, hl⟩
  have tag3 : (textF m m.buf).2.2 = 3 → ∃ c r, (textF m m.buf).2.1.drop 2 = c :: r ∧ letterB c = true := fun e => by
    rcases hk with hk | ⟨r, h1, h2, _⟩
    · omega
    · rw [e] at h2
      obtain ⟨c, r', rfl, hl⟩ := look_end h.name h2
      exact ⟨c, r', by rw [h1]; rfl, hl⟩
  unfold stepF
  simp only
  split
  · exact ⟨hi, fun _ => text_good ‹_›, fun _ => rfl, .inl rfl⟩
  · split
    · have := tagF_ok (e := false) hi (tag2 ‹_›)
      exact ⟨this.inv, this.mark, this.told, this.err⟩
    · split
      · have := tagF_ok (e := true) hi (tag3 ‹_›)
        exact ⟨this.inv, this.mark, this.told, this.err⟩
      · split
        · exact quiet_ok ⟨hi.buf.drop _, h.name, h.pass⟩ rfl
        · split
          · exact quiet_ok ⟨hi.buf.drop _, h.name, fun _ => .inl rfl⟩ rfl
          · split
            · exact quiet_ok ⟨hi.buf, h.name, fun _ => .inr rfl⟩ rfl
            · split
              · exact quiet_ok ⟨hi.buf.drop _, h.name, fun h' => by have : (3 : Int) = 1 ∨ (3 : Int) = 2 := h'; omega⟩ rfl
              · split
                · exact quiet_ok ⟨hi.buf, h.name, fun _ => .inl rfl⟩ rfl
                · exact quiet_ok hi rfl
theorem oneF_ok {m : MkM} (h : InvM m) : OutOk m (oneF m) := by
  unfold oneF
  split
  · exact stepF_ok h ‹_›
  · exact passF_ok h
theorem readF_ok : ∀ (n : Nat) (m : MkM), doM m ≤ n → InvM m → ErrOk m → InvM (readF m).2 ∧ ErrOk (readF m).2 ∧ ∀ x, (readF m).1 = some x → GoodMark x ∧ (readF m).2.err = 0 := by
  intro n
  induction n with
  | zero =>
    intro m hm hi he
    rw [readF]
    have ho := oneF_ok hi
    split
    · exact ⟨hi, he, fun _ h => (by cases h)⟩
    · rename_i h0
      have h0 := Classical.not_not.1 h0
      split
      · rename_i ht
        exact ⟨ho.inv, .inl ((ho.told ht).trans h0), fun x hx => ⟨by cases hx; exact ho.mark ht, (ho.told ht).trans h0⟩⟩
      · split
        · exact ⟨ho.inv, by have := ho.err; rw [h0] at this; exact this, fun _ h => (by cases h)⟩
        · rw [if_neg (by omega)]
          exact ⟨hi, he, fun _ h => (by cases h)⟩
  | succ n ih =>
    intro m hm hi he
    rw [readF]
    have ho := oneF_ok hi
    split
    · exact ⟨hi, he, fun _ h => (by cases h)⟩
    · rename_i h0
      have h0 := Classical.not_not.1 h0
      split
      · rename_i ht
        exact ⟨ho.inv, .inl ((ho.told ht).trans h0), fun x hx => ⟨by cases hx; exact ho.mark ht, (ho.told ht).trans h0⟩⟩
      · split
        · exact ⟨ho.inv, by have := ho.err; rw [h0] at this; exact this, fun _ h => (by cases h)⟩
        · split
          · exact ih _ (by omega) ho.inv (by have := ho.err; rw [h0] at this; exact this)
          · exact ⟨hi, he, fun _ h => (by cases h)⟩
theorem setF_ok {m : MkM} (h : InvM m) (k : Int) (nm : Str) : InvM (setF m k nm) := by
  unfold setF
  split
  · rename_i hc
    refine ⟨h.buf, .inr ?_, h.pass⟩
    cases nm with
    | nil => exact absurd rfl hc.1
    | cons c r =>
      have h1 : 97 ≤ c := by simpa using hc.2.1
      have h2 := hc.2.2.1
      simp only [List.all_cons, Bool.and_eq_true, Bool.or_eq_true, decide_eq_true_eq] at h2
      refine ⟨c, r, rfl, h1, ?_⟩
      rcases h2.1 with h3 | h3
      · exact h3.2
      · exact UInt8.le_trans h3.2 (by decide)
  · exact ⟨h.buf, .inl rfl, h.pass⟩
theorem setF_err (m : MkM) (k : Int) (nm : Str) : (setF m k nm).err = m.err := by unfold setF; split <;> rfl
theorem switchF_ok {m : MkM} (h : InvM m) (x : MarkD) : InvM (switchF m x) := by
  unfold switchF
  repeat' split
  all_goals first | exact h | exact setF_ok h _ _
theorem switchF_err (m : MkM) (x : MarkD) : (switchF m x).err = m.err := by
  unfold switchF
  repeat' split
  all_goals first | rfl | exact setF_err _ _ _
theorem drainF_ok : ∀ (n : Nat) (m : MkM), doM m ≤ n → InvM m → ErrOk m → InvM (drainF m).2 ∧ ErrOk (drainF m).2 ∧ ∀ x ∈ (drainF m).1, GoodMark x := by
  intro n
  induction n with
  | zero =>
    intro m hm hi he
    have hr := readF_ok _ m (Nat.le_refl _) hi he
    rw [drainF]
    split
    · rename_i m1 h1
      rw [h1] at hr
      exact ⟨hr.1, hr.2.1, fun _ h => (by cases h)⟩
    · rename_i x m1 h1
      rw [h1] at hr
      rw [if_neg (by omega)]
      exact ⟨hr.1, hr.2.1, fun _ h => (by cases h)⟩
  | succ n ih =>
    intro m hm hi he
    have hr := readF_ok _ m (Nat.le_refl _) hi he
    rw [drainF]
    split
    · rename_i m1 h1
      rw [h1] at hr
      exact ⟨hr.1, hr.2.1, fun _ h => (by cases h)⟩
    · rename_i x m1 h1
      rw [h1] at hr
      split
      · have := ih (switchF m1 x) (by omega) (switchF_ok hr.1 x) (by unfold ErrOk; rw [switchF_err]; exact hr.2.1)
        refine ⟨this.1, this.2.1, fun y hy => ?_⟩
        rcases List.mem_cons.1 hy with rfl | hy
        · exact (hr.2.2 y rfl).1
        · exact this.2.2 y hy
      · exact ⟨hr.1, hr.2.1, fun _ h => (by cases h)⟩

/-! joined -/
def Apart (l : List MarkD) : Prop := ∀ (i : Nat) x y, l[i]? = some x → l[i + 1]? = some y → ¬ (x.kind = 1 ∧ y.kind = 1)
theorem apart_push {l : List MarkD} (h : Apart l) {x : MarkD} (hx : ∀ y, l.getLast? = some y → ¬ (y.kind = 1 ∧ x.kind = 1)) : Apart (l ++ [x]) := by
  intro i a b ha hb
  have hb' := (List.getElem?_eq_some_iff.1 hb).1
  simp only [List.length_append, List.length_cons, List.length_nil] at hb'
  rw [List.getElem?_append_left (by omega)] at ha
  rcases Nat.lt_or_ge (i + 1) l.length with hlt | hge
  · rw [List.getElem?_append_left hlt] at hb
    exact h i a b ha hb
  · have hi : i + 1 = l.length := by omega
    rw [List.getElem?_append_right (by omega), hi, Nat.sub_self] at hb
    simp only [List.getElem?_cons_zero, Option.some.injEq] at hb
    subst hb
    exact hx a (by rw [List.getLast?_eq_getElem?, ← hi]; exact ha)
theorem joinF_ok : ∀ (l out : List MarkD), (∀ x ∈ l, GoodMark x) → (∀ x ∈ out, GoodMark x) → Apart out → (∀ x ∈ joinF out l, GoodMark x) ∧ Apart (joinF out l)
  | [], out, _, h, ha => ⟨h, ha⟩
  | x :: r, out, hl, h, ha => by
    have hx := hl x List.mem_cons_self
    have hr : ∀ y ∈ r, GoodMark y := fun y hy => hl y (List.mem_cons_of_mem _ hy)
    have push : (∀ y, out.getLast? = some y → ¬ (y.kind = 1 ∧ x.kind = 1)) → (∀ y ∈ joinF (out ++ [x]) r, GoodMark y) ∧ Apart (joinF (out ++ [x]) r) := fun hp =>
      joinF_ok r _ hr (fun y hy => (List.mem_append.1 hy).elim (h y) fun hy => List.mem_singleton.1 hy ▸ hx) (apart_push ha hp)
    rw [joinF]
    split
    · rename_i hk
      exact push fun y _ hh => hk hh.2
    · rename_i hk
      split
      · exact joinF_ok r out hr h ha
      · split
        · rename_i y hy
          split
          · rename_i hyk
            have hmem : y ∈ out := List.mem_of_getLast? hy
            have hsplit : out = out.dropLast ++ [y] := by
              obtain ⟨ys, rfl⟩ := List.getLast?_eq_some_iff.1 hy
              rw [List.dropLast_concat]
            have hyg := h y hmem
            refine joinF_ok r _ hr (fun z hz => ?_) ?_
            · rcases List.mem_append.1 hz with hz | hz
              · exact h z (List.dropLast_subset _ hz)
              · rw [List.mem_singleton.1 hz]
                exact ⟨hyg.kind, hyg.tag, ⟨fun _ e => by have := hyg.text.1 hyk; simp only [List.append_eq_nil_iff] at e; exact this e.1, fun _ => hyk⟩, hyg.few, hyg.only, hyg.name, hyg.ats⟩
            · have hd : Apart out.dropLast := fun i a b h1 h2 => by
                rw [hsplit] at ha
                have hlt1 := (List.getElem?_eq_some_iff.1 h1).1
                have hlt2 := (List.getElem?_eq_some_iff.1 h2).1
                exact ha i a b (by rw [List.getElem?_append_left hlt1]; exact h1) (by rw [List.getElem?_append_left hlt2]; exact h2)
              refine apart_push hd fun z hz hh => ?_
              rw [hsplit] at ha
              have hzl : out.dropLast[out.dropLast.length - 1]? = some z := by rw [← List.getLast?_eq_getElem?]; exact hz
              have hpos := (List.getElem?_eq_some_iff.1 hzl).1
              exact ha (out.dropLast.length - 1) z y (by rw [List.getElem?_append_left hpos]; exact hzl) (by rw [show out.dropLast.length - 1 + 1 = out.dropLast.length from by omega, List.getElem?_append_right (Nat.le_refl _), Nat.sub_self]; rfl) ⟨hh.1, hyk⟩
          · rename_i hyk
            exact push fun z hz hh => hyk (by rw [hy] at hz; cases hz; exact hh.1)
        · rename_i hn
          exact push fun z hz => by rw [hn] at hz; cases hz

/-- a text's marks, and the error -/
def marksF (t : Str) : List MarkD × Int :=
  let p := drainF { zeroM with buf := putF false t, cr := putC false t }
  if p.2.err ≠ 0 then ([], p.2.err) else
  let q := drainF { p.2 with closed := true }
  if q.2.err ≠ 0 then ([], q.2.err) else (joinF [] (p.1 ++ q.1), 0)
theorem marksF_ok (t : Str) : ((marksF t).2 = 0 ∨ ((marksF t).1 = [] ∧ ((marksF t).2 = 41 ∨ (marksF t).2 = 42))) ∧ (∀ x ∈ (marksF t).1, GoodMark x) ∧ Apart (marksF t).1 := by
  have h0 : InvM { zeroM with buf := putF false t, cr := putC false t } := ⟨putF_ok t false, .inl rfl, fun h => by have : (0 : Int) = 1 ∨ (0 : Int) = 2 := h; omega⟩
  have hp := drainF_ok _ _ (Nat.le_refl _) h0 (.inl rfl)
  have hap : Apart [] := fun i x y h => by simp at h
  unfold marksF
  simp only
  split
  · rename_i he
    exact ⟨.inr ⟨rfl, hp.2.1.resolve_left he⟩, fun _ h => (by cases h), hap⟩
  · rename_i he
    have hq := drainF_ok _ { (drainF { zeroM with buf := putF false t, cr := putC false t }).2 with closed := true } (Nat.le_refl _) ⟨hp.1.buf, hp.1.name, hp.1.pass⟩ hp.2.1
    split
    · rename_i he2
      exact ⟨.inr ⟨rfl, hq.2.1.resolve_left he2⟩, fun _ h => (by cases h), hap⟩
    · have := joinF_ok ((drainF { zeroM with buf := putF false t, cr := putC false t }).1 ++ (drainF { (drainF { zeroM with buf := putF false t, cr := putC false t }).2 with closed := true }).1) [] (fun x hx => (List.mem_append.1 hx).elim (hp.2.2 x) (hq.2.2 x)) (fun _ h => (by cases h)) hap
      exact ⟨.inl rfl, this.1, this.2⟩
end Go.Proofs.YtbabcohidpcjjaaGreat
