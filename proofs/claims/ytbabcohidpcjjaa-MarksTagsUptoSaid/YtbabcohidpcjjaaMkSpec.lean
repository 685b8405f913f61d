/-
  A page as marks: plain Lean over lists of bytes, no Go. (Layer 13.) No conditions beyond those that each lemma types.
-/
import Derived.Test.YtbabcohidpcjjaaRefsSpec
import Derived.Test.YtbabcohidpcjjaaBytesP
import Derived.Lib.IndexAny
import Derived.Lib.Index
namespace Go.Proofs.Ytbabcohidpcjjaa
open Mem

structure MarkD where
  kind : Int
  name : Str
  attrs : List (Str × Str)
  self : Bool
  text : Str
def bareM (k : Int) : MarkD := ⟨k, [], [], false, []⟩
def textM (t : Str) : MarkD := ⟨1, [], [], false, t⟩
/-- the machine that reads -/
structure MkM where
  buf : Str
  cr : Bool
  closed : Bool
  mode : Int
  name : Str
  cdata : Bool
  pass : Int
  kind : Int
  fresh : Bool
  err : Int
def zeroM : MkM := ⟨[], false, false, 0, [], false, 0, 0, false, 0⟩

def spaceB (c : UInt8) : Bool := c == 9 || c == 10 || c == 12 || c == 32
def letterB (c : UInt8) : Bool := (decide (97 ≤ c) && decide (c ≤ 122)) || (decide (65 ≤ c) && decide (c ≤ 90))
/-- spaces and strokes between attributes -/
def gapB (c : UInt8) : Bool := spaceB c || c == 47

/-! a text as it comes -/
def putOne (cr : Bool) (c : UInt8) : Str := if c = 10 ∧ cr = true then [] else if c = 13 then [10] else if c = 0 then [239, 191, 189] else [c]
def putF : Bool → Str → Str
  | _, [] => []
  | cr, c :: r => putOne cr c ++ putF (c == 13) r
def putC : Bool → Str → Bool
  | cr, [] => cr
  | _, c :: r => putC (c == 13) r

/-! tags -/
def untilF (sg s : Str) : Option (Str × Str) :=
  if s.dropWhile (fun c => !sg.contains c) = [] then none else some (s.takeWhile (fun c => !sg.contains c), s.dropWhile (fun c => !sg.contains c))
theorem untilF_len {sg s t r : Str} (h : untilF sg s = some (t, r)) : t.length + r.length = s.length ∧ 1 ≤ r.length := by
  unfold untilF at h
  split at h
  · cases h
  · rename_i hne
    simp only [Option.some.injEq, Prod.mk.injEq] at h
    obtain ⟨rfl, rfl⟩ := h
    have := congrArg List.length (List.takeWhile_append_dropWhile (p := fun c => !sg.contains c) (l := s))
    rw [List.length_append] at this
    exact ⟨this, List.length_pos_iff.2 hne⟩
theorem dropWhile_len (p : UInt8 → Bool) (s : Str) : (s.dropWhile p).length ≤ s.length := by
  have := congrArg List.length (List.takeWhile_append_dropWhile (p := p) (l := s))
  rw [List.length_append] at this
  omega
def signT : Str := [9, 10, 12, 32, 47, 62]
def signA : Str := [9, 10, 12, 32, 47, 62, 61]
def signV : Str := [9, 10, 12, 32, 62]
/-- a value behind its =, and what follows it -/
def valueF (r : Str) : Option (Str × Str) := match r.dropWhile spaceB with
  | [] => none
  | q :: r1 => if q = 34 ∨ q = 39 then (untilF [q] r1).map fun p => (p.1, p.2.drop 1) else untilF signV (q :: r1)
theorem valueF_len {r v t : Str} (h : valueF r = some (v, t)) : t.length ≤ r.length := by
  have h0 := dropWhile_len spaceB r
  unfold valueF at h
  split at h
  · cases h
  · rename_i q r1 he
    rw [he] at h0
    split at h
    · cases hu : untilF [q] r1 with
      | none => rw [hu] at h; cases h
      | some p =>
        rw [hu] at h
        simp only [Option.map_some, Option.some.injEq, Prod.mk.injEq] at h
        have := (untilF_len hu).1
        rw [← h.2, List.length_drop]
        simp only [List.length_cons] at h0
        omega
    · have := (untilF_len h).1
      omega
def attrF : Str → Option ((Str × Str) × Str)
  | [] => none
  | c :: r => match untilF signA r with
    | none => none
    | some (t, r2) => match r2.dropWhile spaceB with
      | [] => none
      | d :: r4 => if d = 61 then (valueF r4).map fun p => ((lowS (c :: t), allS p.1 true), p.2) else some ((lowS (c :: t), []), d :: r4)
theorem attrF_len {s r : Str} {a : Str × Str} (h : attrF s = some (a, r)) : r.length < s.length := by
  cases s with
  | nil => cases h
  | cons c s =>
    simp only [attrF] at h
    split at h
    · cases h
    · rename_i t r2 hu
      have h1 := (untilF_len hu).1
      have h2 := dropWhile_len spaceB r2
      split at h
      · cases h
      · rename_i d r4 he
        rw [he] at h2
        simp only [List.length_cons] at h2 ⊢
        split at h
        · cases hv : valueF r4 with
          | none => rw [hv] at h; cases h
          | some p =>
            rw [hv] at h
            simp only [Option.map_some, Option.some.injEq, Prod.mk.injEq] at h
            have := valueF_len hv
            rw [← h.2]
            omega
        · simp only [Option.some.injEq, Prod.mk.injEq] at h
          rw [← h.2]
          simp only [List.length_cons]
          omega
def hasA (l : List (Str × Str)) (n : Str) : Bool := l.any fun a => a.1 == n
/-- a tag's attributes, whether it ends itself, what follows it -/
def tagsF (as : List (Str × Str)) (r : Str) : Option (List (Str × Str) × Bool × Str) :=
  match r.dropWhile gapB with
  | [] => none
  | c :: r1 => if c = 62 then some (as, (r.takeWhile gapB).getLast? == some 47, r1) else
    match attrF (c :: r1) with
    | none => none
    | some (a, r2) => if r2.length < r.length then tagsF (if hasA as a.1 then as else as ++ [a]) r2 else none
termination_by r.length
/-- a tag at the front of a text: the mark, its bytes (below 0: it has no end), the error -/
def parseF (s : Str) (e : Bool) : MarkD × Int × Int :=
  match untilF signT (s.drop (if e then 2 else 1)) with
  | none => (bareM 0, -1, 0)
  | some (nm, r) => match tagsF [] r with
    | none => (bareM 0, -1, 0)
    | some (as, sl, r2) =>
      if e then (⟨3, lowS nm, [], false, []⟩, (s.length : Int) - r2.length, 0)
      else if 8 < as.length then (bareM 0, (s.length : Int) - r2.length, 42)
      else (⟨2, lowS nm, as, sl, []⟩, (s.length : Int) - r2.length, 0)

/-! what stands at a < -/
def foldsF (s word : Str) : Bool × Bool :=
  if lowS (s.take (min s.length word.length)) ≠ word.take (min s.length word.length) then (false, false)
  else (min s.length word.length == word.length, decide (min s.length word.length < word.length))
def unlessF (closed : Bool) (is : Int) : Int := if closed then is else 1
def endsF (m : MkM) (s : Str) : Int :=
  if (foldsF s ([60, 47] ++ m.name)).2 = true ∨ ((foldsF s ([60, 47] ++ m.name)).1 = true ∧ s.length = m.name.length + 2) then unlessF m.closed 0
  else if (foldsF s ([60, 47] ++ m.name)).1 = true ∧ (gapB (s.getD (m.name.length + 2) 0) || s.getD (m.name.length + 2) 0 == 62) = true then 3
  else 0
def cdataW : Str := [60, 33, 91, 67, 68, 65, 84, 65, 91]
def docW : Str := [60, 33, 100, 111, 99, 116, 121, 112, 101]
def comW : Str := [60, 33, 45, 45]
def declF (m : MkM) (s : Str) : Int :=
  if (foldsF s comW).1 then 5
  else if (foldsF s docW).1 then 6
  else if cdataW.isPrefixOf s ∧ m.cdata = true then 7
  else if (foldsF s comW).2 ∨ (foldsF s docW).2 ∨ (s.isPrefixOf cdataW ∧ m.cdata = true) then unlessF m.closed 8
  else 8
def lookF (m : MkM) (s : Str) : Int :=
  if m.mode ≠ 0 then endsF m s
  else match s with
  | _ :: c :: r =>
    if letterB c then 2 else if c = 63 then 8 else if c = 33 then declF m s else if c ≠ 47 then 0
    else match r with
      | [] => unlessF m.closed 0
      | d :: _ => if letterB d then 3 else if d = 62 then 4 else 8
  | _ => unlessF m.closed 0

/-- a text up to what is none: the text, what is left, what stands there -/
def textF (m : MkM) (s : Str) : Str × Str × Int :=
  match s with
  | [] => ([], [], 1)
  | c :: r =>
    if c = 60 then (if lookF m (c :: r) = 0 then (60 :: (textF m r).1, (textF m r).2) else ([], c :: r, lookF m (c :: r)))
    else if c = 38 ∧ m.mode ≠ 2 then
      (if m.closed = false ∧ moreF (c :: r) = true then ([], c :: r, 1)
      else ((if (takeF (c :: r) false).2 = 0 then [38] else (takeF (c :: r) false).1) ++ (textF m (r.drop ((takeF (c :: r) false).2 - 1))).1, (textF m (r.drop ((takeF (c :: r) false).2 - 1))).2))
    else (c :: (textF m r).1, (textF m r).2)
termination_by s.length
decreasing_by all_goals (simp only [List.length_drop, List.length_cons]; omega)

/-! the machine's steps: the mark, whether it is told, whether it stops -/
abbrev Out := MarkD × Bool × Bool × MkM
def noM : MarkD := bareM 0
def doneF (m : MkM) (n : Nat) : Out := (bareM m.kind, true, false, { m with buf := m.buf.drop n, pass := 0 })
def setF (m : MkM) (mode : Int) (name : Str) : MkM :=
  if name ≠ [] ∧ decide (97 ≤ name.headD 0) = true ∧ name.all (fun c => (decide (97 ≤ c) && decide (c ≤ 122)) || (decide (48 ≤ c) && decide (c ≤ 57))) = true ∧ (mode = 1 ∨ mode = 2)
  then { m with mode := mode, name := name } else { m with mode := 0, name := [] }
def refW : List Str := [([116, 105, 116, 108, 101] : List UInt8), ([116, 101, 120, 116, 97, 114, 101, 97] : List UInt8)]
def rawW : List Str := [([115, 116, 121, 108, 101] : List UInt8), ([115, 99, 114, 105, 112, 116] : List UInt8), ([120, 109, 112] : List UInt8), ([105, 102, 114, 97, 109, 101] : List UInt8), ([110, 111, 101, 109, 98, 101, 100] : List UInt8), ([110, 111, 102, 114, 97, 109, 101, 115] : List UInt8)]
def switchF (m : MkM) (x : MarkD) : MkM :=
  if x.kind ≠ 2 then m else if refW.contains x.name then setF m 1 x.name else if rawW.contains x.name then setF m 2 x.name else m
def tagF (m : MkM) (e : Bool) : Out :=
  let s := m.buf.take 2049
  let p := parseF s e
  let er := if p.2.1 > 2048 ∨ (p.2.1 < 0 ∧ 2048 < s.length) then 41 else p.2.2
  if er ≠ 0 then (noM, false, true, { m with err := er, buf := [] })
  else if p.2.1 < 0 then (noM, false, true, if m.closed then { m with buf := [] } else m)
  else (p.1, true, false, if e then { m with buf := m.buf.drop p.2.1.toNat, mode := 0 } else { m with buf := m.buf.drop p.2.1.toNat })
def stepF (m : MkM) : Out :=
  let p := textF m m.buf
  let m1 := { m with buf := p.2.1 }
  if p.1 ≠ [] then (textM p.1, true, false, m1)
  else if p.2.2 = 2 then tagF m1 false
  else if p.2.2 = 3 then tagF m1 true
  else if p.2.2 = 4 then (noM, false, false, { m1 with buf := m1.buf.drop 3 })
  else if p.2.2 = 5 then (noM, false, false, { m1 with pass := 1, kind := 4, fresh := true, buf := m1.buf.drop 4 })
  else if p.2.2 = 6 then (noM, false, false, { m1 with pass := 2, kind := 5 })
  else if p.2.2 = 7 then (noM, false, false, { m1 with pass := 3, buf := m1.buf.drop 9 })
  else if p.2.2 = 8 then (noM, false, false, { m1 with pass := 2, kind := 4 })
  else (noM, false, true, m1)
def comEnd : Str := [45, 45, 62]
def comEnd2 : Str := [45, 45, 33, 62]
def cdEnd : Str := [93, 93, 62]
def comLater (m : MkM) : Out :=
  let a := Lib.index m.buf comEnd
  let b := Lib.index m.buf comEnd2
  if 0 ≤ a ∧ (b < 0 ∨ a < b) then doneF m (a.toNat + 3)
  else if 0 ≤ b then doneF m (b.toNat + 4)
  else if m.closed then doneF m m.buf.length
  else (noM, false, true, { m with buf := m.buf.drop (m.buf.length - 3) })
def comF (m : MkM) : Out :=
  if m.fresh then
    if ([62] : Str).isPrefixOf m.buf then doneF m 1
    else if ([45, 62] : Str).isPrefixOf m.buf then doneF m 2
    else if m.closed = false ∧ (m.buf = [] ∨ m.buf = [45]) then (noM, false, true, m)
    else comLater { m with fresh := false }
  else comLater m
def cdF (m : MkM) : Out :=
  let n := Lib.index m.buf cdEnd
  if 0 ≤ n then (textM (m.buf.take n.toNat), m.buf.take n.toNat ≠ [], false, { m with buf := m.buf.drop (n.toNat + 3), pass := 0 })
  else if m.closed then (textM m.buf, m.buf ≠ [], false, { m with buf := [], pass := 0 })
  else (textM (m.buf.take (m.buf.length - 2)), m.buf.take (m.buf.length - 2) ≠ [], m.pass ≠ 0, { m with buf := m.buf.drop (m.buf.length - 2) })
def passF (m : MkM) : Out :=
  if m.pass = 1 then comF m
  else if m.pass = 2 then
    if 0 ≤ Lib.indexByte m.buf 62 then doneF m ((Lib.indexByte m.buf 62).toNat + 1)
    else if m.closed then doneF m m.buf.length
    else (noM, false, true, { m with buf := [] })
  else cdF m
/-- how much there is to do -/
def doM (m : MkM) : Nat := if m.pass = 0 then 2 * m.buf.length else if m.pass = 2 then (if m.buf = [] then 1 else 2 * m.buf.length - 1) else 2 * m.buf.length + 1
def oneF (m : MkM) : Out := if m.pass = 0 then stepF m else passF m
def readF (m : MkM) : Option MarkD × MkM :=
  if m.err ≠ 0 then (none, m) else
  if (oneF m).2.1 then (some (oneF m).1, (oneF m).2.2.2) else if (oneF m).2.2.1 then (none, (oneF m).2.2.2)
  else if doM (oneF m).2.2.2 < doM m then readF (oneF m).2.2.2 else (none, m)
termination_by doM m
def drainF (m : MkM) : List MarkD × MkM :=
  match readF m with
  | (none, m1) => ([], m1)
  | (some x, m1) => if doM (switchF m1 x) < doM m then (x :: (drainF (switchF m1 x)).1, (drainF (switchF m1 x)).2) else ([], m1)
termination_by doM m
def joinF : List MarkD → List MarkD → List MarkD
  | out, [] => out
  | out, x :: r =>
    if x.kind ≠ 1 then joinF (out ++ [x]) r
    else if x.text = [] then joinF out r
    else match out.getLast? with
      | some y => if y.kind = 1 then joinF (out.dropLast ++ [{ y with text := y.text ++ x.text }]) r else joinF (out ++ [x]) r
      | none => joinF (out ++ [x]) r
end Go.Proofs.Ytbabcohidpcjjaa
