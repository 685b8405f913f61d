import Derived.Test.YtbabcohidpcjjaaGreatZMem
/-
  What a reference stands for: plain Lean over lists of bytes, no Go. (Layer 12.) No conditions beyond those that each lemma types.
-/
namespace Go.Proofs.YtbabcohidpcjjaaGreat
open Mem

def bareT : List (Str × Str) := [([113, 117, 111, 116], [34]),
  ([97, 109, 112], [38]),
  ([65, 77, 80], [38]),
  ([108, 116], [60]),
  ([76, 84], [60]),
  ([103, 116], [62]),
  ([110, 98, 115, 112], [194, 160]),
  ([99, 111, 112, 121], [194, 169]),
  ([114, 101, 103], [194, 174]),
  ([110, 111, 116], [194, 172]),
  ([112, 97, 114, 97], [194, 182]),
  ([116, 105, 109, 101, 115], [195, 151]),
  ([100, 105, 118, 105, 100, 101], [195, 183]),
  ([101, 97, 99, 117, 116, 101], [195, 169]),
  ([69, 84, 72], [195, 144]),
  ([115, 122, 108, 105, 103], [195, 159])]
def boundT : List (Str × Str) := [([97, 112, 111, 115], [39]),
  ([110, 111, 116, 105, 110], [226, 136, 137]),
  ([99, 111, 112, 121, 115, 114], [226, 132, 151]),
  ([112, 97, 114, 97, 108, 108, 101, 108], [226, 136, 165]),
  ([116, 105, 109, 101, 115, 98], [226, 138, 160]),
  ([108, 116, 105, 109, 101, 115], [226, 139, 137]),
  ([103, 116, 100, 111, 116], [226, 139, 151]),
  ([104, 101, 108, 108, 105, 112], [226, 128, 166]),
  ([110, 100, 97, 115, 104], [226, 128, 147]),
  ([109, 100, 97, 115, 104], [226, 128, 148]),
  ([108, 115, 113, 117, 111], [226, 128, 152]),
  ([114, 115, 113, 117, 111], [226, 128, 153]),
  ([108, 100, 113, 117, 111], [226, 128, 156]),
  ([114, 100, 113, 117, 111], [226, 128, 157]),
  ([101, 117, 114, 111], [226, 130, 172]),
  ([116, 114, 97, 100, 101], [226, 132, 162]),
  ([108, 97, 114, 114], [226, 134, 144]),
  ([114, 97, 114, 114], [226, 134, 146]),
  ([84, 97, 98], [9]),
  ([78, 101, 119, 76, 105, 110, 101], [10]),
  ([99, 111, 108, 111, 110], [58]),
  ([115, 111, 108], [47]),
  ([113, 117, 101, 115, 116], [63]),
  ([108, 112, 97, 114], [40]),
  ([122, 119, 106], [226, 128, 141]),
  ([78, 111, 116, 69, 113, 117, 97, 108, 84, 105, 108, 100, 101], [226, 137, 130, 204, 184]),
  ([84, 104, 105, 99, 107, 83, 112, 97, 99, 101], [226, 129, 159, 226, 128, 138]),
  ([110, 118, 108, 116], [60, 226, 131, 146])]
def namesT : List (Str × Nat × Nat × Bool) := [([97, 109, 112], 38, 0, true),
  ([65, 77, 80], 38, 0, true),
  ([108, 116], 60, 0, true),
  ([76, 84], 60, 0, true),
  ([103, 116], 62, 0, true),
  ([113, 117, 111, 116], 34, 0, true),
  ([110, 98, 115, 112], 160, 0, true),
  ([99, 111, 112, 121], 169, 0, true),
  ([114, 101, 103], 174, 0, true),
  ([110, 111, 116], 172, 0, true),
  ([112, 97, 114, 97], 182, 0, true),
  ([116, 105, 109, 101, 115], 215, 0, true),
  ([100, 105, 118, 105, 100, 101], 247, 0, true),
  ([101, 97, 99, 117, 116, 101], 233, 0, true),
  ([69, 84, 72], 208, 0, true),
  ([115, 122, 108, 105, 103], 223, 0, true),
  ([97, 112, 111, 115], 39, 0, false),
  ([110, 111, 116, 105, 110], 8713, 0, false),
  ([99, 111, 112, 121, 115, 114], 8471, 0, false),
  ([112, 97, 114, 97, 108, 108, 101, 108], 8741, 0, false),
  ([116, 105, 109, 101, 115, 98], 8864, 0, false),
  ([108, 116, 105, 109, 101, 115], 8905, 0, false),
  ([103, 116, 100, 111, 116], 8919, 0, false),
  ([104, 101, 108, 108, 105, 112], 8230, 0, false),
  ([110, 100, 97, 115, 104], 8211, 0, false),
  ([109, 100, 97, 115, 104], 8212, 0, false),
  ([108, 115, 113, 117, 111], 8216, 0, false),
  ([114, 115, 113, 117, 111], 8217, 0, false),
  ([108, 100, 113, 117, 111], 8220, 0, false),
  ([114, 100, 113, 117, 111], 8221, 0, false),
  ([101, 117, 114, 111], 8364, 0, false),
  ([116, 114, 97, 100, 101], 8482, 0, false),
  ([108, 97, 114, 114], 8592, 0, false),
  ([114, 97, 114, 114], 8594, 0, false),
  ([84, 97, 98], 9, 0, false),
  ([78, 101, 119, 76, 105, 110, 101], 10, 0, false),
  ([99, 111, 108, 111, 110], 58, 0, false),
  ([115, 111, 108], 47, 0, false),
  ([113, 117, 101, 115, 116], 63, 0, false),
  ([108, 112, 97, 114], 40, 0, false),
  ([122, 119, 106], 8205, 0, false),
  ([78, 111, 116, 69, 113, 117, 97, 108, 84, 105, 108, 100, 101], 8770, 824, false),
  ([84, 104, 105, 99, 107, 83, 112, 97, 99, 101], 8287, 8202, false),
  ([110, 118, 108, 116], 60, 8402, false)]

/-- the bytes of a character -/
def encF (c : Nat) : Str :=
  if c < 0x80 then [UInt8.ofNat c]
  else if c < 0x800 then [UInt8.ofNat (0xc0 + c / 64), UInt8.ofNat (0x80 + c % 64)]
  else if c < 0x10000 then [UInt8.ofNat (0xe0 + c / 4096), UInt8.ofNat (0x80 + c / 64 % 64), UInt8.ofNat (0x80 + c % 64)]
  else [UInt8.ofNat (0xf0 + c / 262144), UInt8.ofNat (0x80 + c / 4096 % 64), UInt8.ofNat (0x80 + c / 64 % 64), UInt8.ofNat (0x80 + c % 64)]
def charB (n : Int) : Bool := decide (0 ≤ n) && decide (n ≤ 0x10ffff) && !(decide (0xd800 ≤ n) && decide (n ≤ 0xdfff))
def oddT : List Nat := [0x20ac, 0x81, 0x201a, 0x192, 0x201e, 0x2026, 0x2020, 0x2021, 0x2c6, 0x2030, 0x160, 0x2039, 0x152, 0x8d, 0x17d, 0x8f,
  0x90, 0x2018, 0x2019, 0x201c, 0x201d, 0x2022, 0x2013, 0x2014, 0x2dc, 0x2122, 0x161, 0x203a, 0x153, 0x9d, 0x17e, 0x178]
/-- the number of a character that a number stands for -/
def numC (n : Int) : Nat := if n = 0 ∨ charB n = false then 0xfffd else if 0x80 ≤ n ∧ n < 0xa0 then oddT.getD (n.toNat - 0x80) 0 else n.toNat
def numF (n : Int) : Str := encF (numC n)

/-! names -/
def look : List (Str × Str) → Str → Str
  | [], _ => []
  | p :: r, x => if x == p.1 then p.2 else look r x
def semi (p : Str × Str) : Str × Str := (p.1 ++ [59], p.2)
/-- what a text that is all a name stands for -/
def hitF (p : Str) : Str :=
  if ([59] : Str).isSuffixOf p then (if look bareT (p.take (p.length - 1)) ≠ [] then look bareT (p.take (p.length - 1)) else look boundT (p.take (p.length - 1)))
  else look bareT p
def findUp (s : Str) : Nat → Str × Nat
  | 0 => ([], 0)
  | n + 1 => if hitF (s.take (n + 1)) ≠ [] then (hitF (s.take (n + 1)), n + 1) else findUp s n
def findF (s : Str) : Str × Nat := findUp s (min s.length 14)
def keys : List (Str × Str) := bareT ++ bareT.map semi ++ boundT.map semi
/-- a text goes on to a name that is longer, with its ; -/
def beginsF (s : Str) : Bool := (bareT ++ boundT).any fun p => s.isPrefixOf p.1

/-! numbers -/
def digV (n : Nat) : Nat := if 48 ≤ n ∧ n ≤ 57 then n - 48 else if 97 ≤ n ∧ n ≤ 102 then n - 97 + 10 else if 65 ≤ n ∧ n ≤ 70 then n - 65 + 10 else 99
def digF (base : Nat) (c : UInt8) : Option Nat := if digV c.toNat < base then some (digV c.toNat) else none
/-- digits, k at most: how many, what they say (no more than 110000 in base sixteen) -/
def digsF (base : Nat) : Nat → Str → Nat → Nat × Nat
  | 0, _, v => (0, v)
  | _ + 1, [], v => (0, v)
  | k + 1, c :: r, v => match digF base c with
    | none => (0, v)
    | some d => ((digsF base k r (min (v * base + d) 0x110000)).1 + 1, (digsF base k r (min (v * base + d) 0x110000)).2)
def xB (s : Str) : Bool := match s with
  | [] => false
  | c :: _ => c == 120 || c == 88
def headN (s : Str) : Nat := if xB s then 1 else 0
def baseN (s : Str) : Nat := if xB s then 16 else 10
/-- behind &#: how many digits, what they say -/
def numG (s : Str) : Nat × Nat := digsF (baseN s) 16 (s.drop (headN s)) 0
/-- how many bytes, with the x -/
def numN (s : Str) : Nat := headN s + (numG s).1

/-! references -/
def wordB (c : UInt8) : Bool := (48 ≤ c && c ≤ 57) || (97 ≤ c && c ≤ 122) || (65 ≤ c && c ≤ 90) || c == 61
def takeNum (r : Str) : Str × Nat :=
  if (numG r).1 = 0 then ([], 0) else (numF (numG r).2, (if (r.drop (numN r)).head? = some 59 then numN r + 1 else numN r) + 2)
def refused (r : Str) (attr : Bool) : Bool :=
  (findF r).2 == 0 || (attr && !((r.take (findF r).2).getLast? == some 59) && (((r.drop (findF r).2).head?).map wordB).getD false)
def takeName (r : Str) (attr : Bool) : Str × Nat := if refused r attr then ([], 0) else ((findF r).1, (findF r).2 + 1)
def takeF (s : Str) (attr : Bool) : Str × Nat :=
  if ([38, 35] : Str).isPrefixOf s then takeNum (s.drop 2) else if ([38] : Str).isPrefixOf s then takeName (s.drop 1) attr else ([], 0)
def moreF (s : Str) : Bool :=
  if ([38, 35] : Str).isPrefixOf s then numN (s.drop 2) == (s.drop 2).length else if ([38] : Str).isPrefixOf s then beginsF (s.drop 1) else false
/-- all references replaced -/
def allF (attr : Bool) : Nat → Str → Str
  | 0, _ => []
  | _ + 1, [] => []
  | k + 1, c :: r => if c = 38 ∧ (takeF (c :: r) attr).2 ≠ 0 then (takeF (c :: r) attr).1 ++ allF attr k ((c :: r).drop (takeF (c :: r) attr).2) else c :: allF attr k r
def allS (s : Str) (attr : Bool) : Str := allF attr s.length s
/-- a text as it must be written -/
def escOne (attr : Bool) (c : UInt8) : Str := if c = 38 then [38, 97, 109, 112, 59] else if c = 60 then [38, 108, 116, 59] else if c = 62 then [38, 103, 116, 59] else if c = 34 ∧ attr = true then [38, 113, 117, 111, 116, 59] else [c]
def escG (attr : Bool) : Bool → Str → Str
  | _, [] => []
  | true, _ :: r => escG attr false r
  | false, c :: r => if c = 194 ∧ r.head? = some 160 then [38, 110, 98, 115, 112, 59] ++ escG attr true r else escOne attr c ++ escG attr false r
def escS (attr : Bool) (s : Str) : Str := escG attr false s
end Go.Proofs.YtbabcohidpcjjaaGreat

/-
  The longest name at the front of a text: what tells it, and when it stays. Plain Lean, no Go. (Layer 12.) No conditions beyond those that each lemma types.
-/
namespace Go.Proofs.YtbabcohidpcjjaaGreat
open Mem

theorem look_mem : ∀ (t : List (Str × Str)) (x : Str), look t x ≠ [] → (x, look t x) ∈ t
  | [], x, h => absurd rfl h
  | p :: r, x, h => by
    unfold look at h ⊢
    by_cases e : (x == p.1) = true
    · rw [if_pos e]
      obtain rfl : x = p.1 := by simpa using e
      exact List.mem_cons_self
    · rw [if_neg e] at h ⊢
      exact List.mem_cons_of_mem _ (look_mem r x h)
theorem hit_mem {p : Str} (h : hitF p ≠ []) : (p, hitF p) ∈ keys := by
  unfold hitF at h ⊢
  by_cases h1 : ([59] : Str).isSuffixOf p = true
  · rw [if_pos h1] at h ⊢
    obtain ⟨q, rfl⟩ := List.isSuffixOf_iff_suffix.1 h1
    have e : (q ++ [59]).take ((q ++ [59]).length - 1) = q := by simp
    rw [e] at h ⊢
    by_cases h2 : look bareT q ≠ []
    · rw [if_pos h2] at h ⊢
      exact List.mem_append_left _ (List.mem_append_right _ (List.mem_map.2 ⟨_, look_mem _ _ h2, rfl⟩))
    · rw [if_neg h2] at h ⊢
      exact List.mem_append_right _ (List.mem_map.2 ⟨_, look_mem _ _ h, rfl⟩)
  · rw [if_neg h1] at h ⊢
    exact List.mem_append_left _ (List.mem_append_left _ (look_mem _ _ h))
theorem keys_hit : ∀ k ∈ keys, hitF k.1 = k.2 ∧ k.2 ≠ [] ∧ 1 ≤ k.1.length ∧ k.1.length ≤ 14 := by decide +kernel

theorem findUp_spec (s : Str) : ∀ n, n ≤ s.length → (findUp s n).2 ≤ n ∧ (((findUp s n).2 = 0 ∧ (findUp s n).1 = []) ∨ (0 < (findUp s n).2 ∧ (s.take (findUp s n).2, (findUp s n).1) ∈ keys)) ∧
    ∀ k ∈ keys, k.1 <+: s → k.1.length ≤ n → k.1.length ≤ (findUp s n).2
  | 0, _ => ⟨Nat.le_refl _, .inl ⟨rfl, rfl⟩, fun _ _ _ h => h⟩
  | n + 1, hn => by
    obtain ⟨h1, h2, h3⟩ := findUp_spec s n (by omega)
    unfold findUp
    by_cases hh : hitF (s.take (n + 1)) ≠ []
    · rw [if_pos hh]
      exact ⟨Nat.le_refl _, .inr ⟨by omega, hit_mem hh⟩, fun _ _ _ h => h⟩
    · rw [if_neg hh]
      refine ⟨by omega, h2, fun k hk hp hl => ?_⟩
      by_cases he : k.1.length = n + 1
      · have : k.1 = s.take (n + 1) := by rw [← he]; exact List.prefix_iff_eq_take.1 hp
        rw [← this] at hh
        obtain ⟨e1, e2, _⟩ := keys_hit k hk
        rw [e1] at hh
        exact absurd e2 hh
      · exact h3 k hk hp (by omega)
theorem findF_spec (s : Str) : (((findF s).2 = 0 ∧ (findF s).1 = []) ∨ (0 < (findF s).2 ∧ (findF s).2 ≤ s.length ∧ (s.take (findF s).2, (findF s).1) ∈ keys)) ∧ ∀ k ∈ keys, k.1 <+: s → k.1.length ≤ (findF s).2 := by
  obtain ⟨h1, h2, h3⟩ := findUp_spec s (min s.length 14) (Nat.min_le_left _ _)
  refine ⟨h2.imp id fun ⟨a, b⟩ => ⟨a, by unfold findF; omega, b⟩, fun k hk hp => h3 k hk hp ?_⟩
  have := hp.length_le
  have := (keys_hit k hk).2.2.2
  omega
theorem findF_eq {s t : Str} {n : Nat} (h : (n = 0 ∧ t = []) ∨ (0 < n ∧ n ≤ s.length ∧ (s.take n, t) ∈ keys)) (hm : ∀ k ∈ keys, k.1 <+: s → k.1.length ≤ n) : findF s = (t, n) := by
  obtain ⟨h1, h2⟩ := findF_spec s
  have key : ∀ {m : Nat} {u : Str}, 0 < m → m ≤ s.length → (s.take m, u) ∈ keys → m ≤ n := fun {m u} _ hml hu => by
    have := hm _ hu (List.take_prefix _ _)
    simp only [List.length_take] at this
    omega
  have key2 : ∀ {m : Nat} {u : Str}, 0 < m → m ≤ s.length → (s.take m, u) ∈ keys → m ≤ (findF s).2 := fun {m u} _ hml hu => by
    have := h2 _ hu (List.take_prefix _ _)
    simp only [List.length_take] at this
    omega
  have hn : (findF s).2 = n := by
    rcases h with ⟨h, _⟩ | ⟨h, h', h''⟩ <;> rcases h1 with ⟨g, _⟩ | ⟨g, g', g''⟩
    · omega
    · have := key g g' g''; omega
    · have := key2 h h' h''; omega
    · have := key g g' g''; have := key2 h h' h''; omega
  have ht : (findF s).1 = t := by
    rcases h with ⟨h, ht⟩ | ⟨h, h', h''⟩ <;> rcases h1 with ⟨g, gt⟩ | ⟨g, g', g''⟩
    · rw [ht, gt]
    · omega
    · omega
    · rw [hn] at g''
      have e1 := (keys_hit _ g'').1
      have e2 := (keys_hit _ h'').1
      exact e1.symm.trans e2
  rw [← hn, ← ht]
theorem findF_le (s : Str) : (findF s).2 ≤ s.length := by
  rcases (findF_spec s).1 with ⟨h, _⟩ | ⟨_, h, _⟩
  · omega
  · exact h
theorem findF_zero (s : Str) : (findF s).2 = 0 ↔ (findF s).1 = [] := by
  rcases (findF_spec s).1 with ⟨h, h'⟩ | ⟨h, _, h'⟩
  · simp [h, h']
  · have := (keys_hit _ h').2.1
    constructor
    · intro e; omega
    · intro e; exact absurd e this
/-- the name at the front of the name's own text, and of what goes on behind it -/
theorem findF_take (s : Str) (k : Nat) (hk : (findF s).2 ≤ k) : findF (s.take k) = findF s := by
  obtain ⟨h1, h2⟩ := findF_spec s
  refine findF_eq (t := (findF s).1) (n := (findF s).2) ?_ fun q hq hp => h2 q hq (hp.trans (List.take_prefix _ _))
  refine h1.imp id fun ⟨a, b, c⟩ => ⟨a, by rw [List.length_take]; omega, ?_⟩
  rw [List.take_take, Nat.min_eq_left hk]
  exact c
theorem findF_append (s x : Str) (h : ∀ k ∈ keys, k.1 <+: s ++ x → k.1 <+: s) : findF (s ++ x) = findF s := by
  obtain ⟨h1, h2⟩ := findF_spec s
  refine findF_eq (t := (findF s).1) (n := (findF s).2) ?_ fun q hq hp => h2 q hq (h q hq hp)
  refine h1.imp id fun ⟨a, b, c⟩ => ⟨a, by rw [List.length_append]; omega, ?_⟩
  rw [List.take_append_of_le_length b]
  exact c
/-- a name with its ; is found whatever stands behind it -/
theorem findF_semi {k : Str × Str} (hk : k ∈ keys) (hs : k.1.getLast? = some 59) (x : Str) : findF (k.1 ++ x) = (k.2, k.1.length) := by
  have hall : ∀ a ∈ keys, ∀ b ∈ keys, a.1.getLast? = some 59 → a.1.isPrefixOf b.1 = true → a.1.length = b.1.length := by decide +kernel
  refine findF_eq (.inr ⟨(keys_hit k hk).2.2.1, by simp, by simpa using hk⟩) fun q hq hp => ?_
  rcases Nat.lt_or_ge k.1.length q.1.length with h | h
  · have := hall k hk q hq hs (List.isPrefixOf_iff_prefix.2 (List.prefix_of_prefix_length_le (List.prefix_append _ _) hp (Nat.le_of_lt h)))
    omega
  · exact h
/-- no name goes on with a byte that is in none -/
theorem prefix_stop {k s x : Str} {c : UInt8} (hc : c ∉ k) (h : k <+: s ++ c :: x) : k <+: s := by
  rcases Nat.lt_or_ge s.length k.length with hl | hl
  · have h1 : s ++ [c] <+: s ++ c :: x := ⟨x, by simp⟩
    have h2 : s ++ [c] <+: k := List.prefix_of_prefix_length_le h1 h (by simp; omega)
    exact absurd (h2.subset (by simp)) hc
  · exact List.prefix_of_prefix_length_le h (List.prefix_append _ _) hl

/-! the document's search -/
def chars (a b : Nat) : Str := encF a ++ (if 0 < b then encF b else [])
def refStep (s : Str) (x : Str × Nat × Nat × Bool) (acc : Str × Nat) : Str × Nat :=
  let k := if (x.1 ++ [59]).isPrefixOf s then x.1.length + 1 else if x.2.2.2 && x.1.isPrefixOf s then x.1.length else 0
  if acc.2 < k then (chars x.2.1 x.2.2.1, k) else acc
def refGo (s : Str) : List (Str × Nat × Nat × Bool) → Str × Nat → Str × Nat
  | [], acc => acc
  | x :: r, acc => refGo s r (refStep s x acc)
def rowsOf (x : Str × Nat × Nat × Bool) : List (Str × Str) := (x.1 ++ [59], chars x.2.1 x.2.2.1) :: (if x.2.2.2 then [(x.1, chars x.2.1 x.2.2.1)] else [])
def Long (K : List (Str × Str)) (s : Str) (acc : Str × Nat) : Prop := ((acc.2 = 0 ∧ acc.1 = []) ∨ (0 < acc.2 ∧ acc.2 ≤ s.length ∧ (s.take acc.2, acc.1) ∈ K)) ∧ ∀ k ∈ K, k.1 <+: s → k.1.length ≤ acc.2
theorem Long.step {K : List (Str × Str)} {s : Str} {acc : Str × Nat} (h : Long K s acc) (x : Str × Nat × Nat × Bool) : Long (K ++ rowsOf x) s (refStep s x acc) := by
  obtain ⟨h1, h2⟩ := h
  have hmem : ∀ k ∈ rowsOf x, k = (x.1 ++ [59], chars x.2.1 x.2.2.1) ∨ (x.2.2.2 = true ∧ k = (x.1, chars x.2.1 x.2.2.1)) := by
    intro k hk
    unfold rowsOf at hk
    rcases List.mem_cons.1 hk with hk | hk
    · exact .inl hk
    · split at hk
      · rename_i hb
        exact .inr ⟨hb, by simpa using hk⟩
      · cases hk
  unfold refStep
  by_cases c1 : (x.1 ++ [59]).isPrefixOf s = true
  · have p1 := List.isPrefixOf_iff_prefix.1 c1
    simp only [c1, if_true]
    have hl := p1.length_le
    simp only [List.length_append, List.length_cons, List.length_nil] at hl
    by_cases hlt : acc.2 < x.1.length + 1
    · rw [if_pos hlt]
      refine ⟨.inr ⟨by simp, by simp; omega, ?_⟩, fun k hk hp => ?_⟩
      · have : s.take (x.1.length + 1) = x.1 ++ [59] := by
          have := List.prefix_iff_eq_take.1 p1
          simpa using this.symm
        refine List.mem_append_right _ ?_
        simp only [this]
        exact List.mem_cons_self
      · rcases List.mem_append.1 hk with hk | hk
        · have := h2 k hk hp; show k.1.length ≤ x.1.length + 1; omega
        · rcases hmem k hk with rfl | ⟨_, rfl⟩ <;> simp
    · rw [if_neg hlt]
      refine ⟨h1.imp id fun ⟨a, b, c⟩ => ⟨a, b, List.mem_append_left _ c⟩, fun k hk hp => ?_⟩
      rcases List.mem_append.1 hk with hk | hk
      · exact h2 k hk hp
      · rcases hmem k hk with rfl | ⟨_, rfl⟩ <;> simp <;> omega
  · have c1' : (x.1 ++ [59]).isPrefixOf s = false := Bool.eq_false_iff.2 c1
    have n1 : ¬ (x.1 ++ [59]) <+: s := fun h => c1 (List.isPrefixOf_iff_prefix.2 h)
    simp only [c1', Bool.false_eq_true, if_false]
    by_cases c2 : (x.2.2.2 && x.1.isPrefixOf s) = true
    · simp only [c2, if_true]
      have hb : x.2.2.2 = true := by simp at c2; exact c2.1
      have p1 : x.1 <+: s := by simp at c2; exact c2.2
      have hl := p1.length_le
      by_cases hlt : acc.2 < x.1.length
      · rw [if_pos hlt]
        refine ⟨.inr ⟨by simp; omega, hl, ?_⟩, fun k hk hp => ?_⟩
        · have : s.take x.1.length = x.1 := (List.prefix_iff_eq_take.1 p1).symm
          refine List.mem_append_right _ ?_
          simp only [this]
          unfold rowsOf
          rw [if_pos hb]
          simp
        · rcases List.mem_append.1 hk with hk | hk
          · have := h2 k hk hp; simp; omega
          · rcases hmem k hk with rfl | ⟨_, rfl⟩
            · exact absurd hp n1
            · simp
      · rw [if_neg hlt]
        refine ⟨h1.imp id fun ⟨a, b, c⟩ => ⟨a, b, List.mem_append_left _ c⟩, fun k hk hp => ?_⟩
        rcases List.mem_append.1 hk with hk | hk
        · exact h2 k hk hp
        · rcases hmem k hk with rfl | ⟨_, rfl⟩
          · exact absurd hp n1
          · simp; omega
    · have c2' : (x.2.2.2 && x.1.isPrefixOf s) = false := Bool.eq_false_iff.2 c2
      simp only [c2', Bool.false_eq_true, if_false, Nat.not_lt_zero]
      refine ⟨h1.imp id fun ⟨a, b, c⟩ => ⟨a, b, List.mem_append_left _ c⟩, fun k hk hp => ?_⟩
      rcases List.mem_append.1 hk with hk | hk
      · exact h2 k hk hp
      · rcases hmem k hk with rfl | ⟨hb, rfl⟩
        · exact absurd hp n1
        · exact absurd (by simpa [hb] using hp) c2
theorem refGo_long {s : Str} : ∀ (l : List (Str × Nat × Nat × Bool)) (K : List (Str × Str)) (acc : Str × Nat), Long K s acc → Long (K ++ l.flatMap rowsOf) s (refGo s l acc)
  | [], K, acc, h => by simpa [refGo] using h
  | x :: r, K, acc, h => by
    have := refGo_long r _ _ (h.step x)
    simpa [refGo, List.flatMap_cons, List.append_assoc] using this
theorem keys_rows : (∀ k ∈ keys, k ∈ namesT.flatMap rowsOf) ∧ ∀ k ∈ namesT.flatMap rowsOf, k ∈ keys := by
  have h1 : (keys.all fun k => (namesT.flatMap rowsOf).contains k) = true := by decide +kernel
  have h2 : ((namesT.flatMap rowsOf).all fun k => keys.contains k) = true := by decide +kernel
  exact ⟨fun k hk => by simpa using List.all_eq_true.1 h1 k hk, fun k hk => by simpa using List.all_eq_true.1 h2 k hk⟩
/-- both searches find the same -/
theorem refGo_findF (s : Str) : refGo s namesT ([], 0) = findF s := by
  have h := refGo_long (s := s) namesT [] ([], 0) ⟨.inl ⟨rfl, rfl⟩, fun k hk => by cases hk⟩
  rw [List.nil_append] at h
  obtain ⟨h1, h2⟩ := h
  rw [findF_eq (t := (refGo s namesT ([], 0)).1) (n := (refGo s namesT ([], 0)).2) (h1.imp id fun ⟨a, b, c⟩ => ⟨a, b, keys_rows.2 _ c⟩) fun k hk hp => h2 k (keys_rows.1 k hk) hp]
end Go.Proofs.YtbabcohidpcjjaaGreat

/-
  References: what can't be told yet is known; where none stands nothing is changed; what is written is read as it was. Plain Lean, no Go. (Layer 12.) No conditions beyond those that each lemma types.
-/
namespace Go.Proofs.YtbabcohidpcjjaaGreat
open Mem

/-! digits -/
theorem digsF_le (b : Nat) : ∀ (k : Nat) (s : Str) (v : Nat), (digsF b k s v).1 ≤ s.length ∧ (digsF b k s v).1 ≤ k
  | 0, _, _ => ⟨Nat.zero_le _, Nat.zero_le _⟩
  | _ + 1, [], _ => ⟨Nat.zero_le _, Nat.zero_le _⟩
  | k + 1, c :: r, v => by
    unfold digsF
    cases digF b c with
    | none => exact ⟨Nat.zero_le _, Nat.zero_le _⟩
    | some d =>
      have := digsF_le b k r (min (v * b + d) 0x110000)
      exact ⟨by simp only [List.length_cons]; omega, by simp only; omega⟩
theorem digsF_stays (b : Nat) (x : Str) : ∀ (k : Nat) (s : Str) (v : Nat), ((digsF b k s v).1 < s.length ∨ (∀ c, x.head? = some c → digF b c = none)) → digsF b k (s ++ x) v = digsF b k s v
  | 0, s, v, _ => by cases s <;> rfl
  | k + 1, [], v, h => by
    rcases h with h | h
    · simp at h
    · cases x with
      | nil => rfl
      | cons c r =>
        have := h c rfl
        simp [digsF, this]
  | k + 1, c :: r, v, h => by
    rw [List.cons_append]
    unfold digsF at h ⊢
    cases hd : digF b c with
    | none => rfl
    | some d =>
      rw [hd] at h
      have := digsF_stays b x k r (min (v * b + d) 0x110000) (h.imp (fun h => by simp only [List.length_cons] at h; omega) id)
      simp only [this]
theorem headN_le (s : Str) : headN s ≤ s.length ∧ headN s ≤ 1 := by
  unfold headN xB
  cases s with
  | nil => simp
  | cons c r => simp only [List.length_cons]; split <;> omega
theorem numN_le (s : Str) : numN s ≤ s.length := by
  have h1 := headN_le s
  have h2 := digsF_le (baseN s) 16 (s.drop (headN s)) 0
  unfold numN numG
  rw [List.length_drop] at h2
  omega
theorem head_stays {s x : Str} (h : s ≠ [] ∨ xB x = false) : xB (s ++ x) = xB s := by
  cases s with
  | nil => simpa [xB] using h
  | cons c r => rfl
theorem numG_stays {s x : Str} (h : numN s < s.length ∨ (xB x = false ∧ ∀ c, x.head? = some c → digF 10 c = none ∧ digF 16 c = none)) : headN (s ++ x) = headN s ∧ baseN (s ++ x) = baseN s ∧ numG (s ++ x) = numG s := by
  have hx : xB (s ++ x) = xB s := head_stays (h.imp (fun h e => by subst e; simp at h) fun h => h.1)
  have h1 : headN (s ++ x) = headN s := by unfold headN; rw [hx]
  have h2 : baseN (s ++ x) = baseN s := by unfold baseN; rw [hx]
  refine ⟨h1, h2, ?_⟩
  have hl := headN_le s
  unfold numG
  rw [h1, h2, List.drop_append_of_le_length hl.1]
  refine digsF_stays _ _ _ _ _ ?_
  refine h.imp (fun h => ?_) fun h c hc => ?_
  · unfold numN numG at h
    rw [List.length_drop]
    omega
  · have := h.2 c hc
    unfold baseN
    split
    · exact this.2
    · exact this.1
theorem takeNum_le (r : Str) : (takeNum r).2 ≤ r.length + 2 := by
  have h := numN_le r
  unfold takeNum
  split
  · exact Nat.zero_le _
  · simp only
    split
    · rename_i h'
      have : r.drop (numN r) ≠ [] := by intro e; rw [e] at h'; simp at h'
      have : numN r < r.length := by
        rcases Nat.lt_or_ge (numN r) r.length with h2 | h2
        · exact h2
        · exact absurd (List.drop_of_length_le h2) this
      omega
    · omega
theorem drop_head {s x : Str} {n : Nat} (h : n < s.length) : ((s ++ x).drop n).head? = (s.drop n).head? := by
  rw [List.drop_append_of_le_length (by omega)]
  cases hd : s.drop n with
  | nil => have := congrArg List.length hd; simp at this; omega
  | cons c r => rfl
theorem takeNum_stays {r x : Str} (h : numN r < r.length ∨ (xB x = false ∧ (∀ c, x.head? = some c → digF 10 c = none ∧ digF 16 c = none) ∧ x.head? ≠ some 59)) : takeNum (r ++ x) = takeNum r := by
  obtain ⟨h1, h2, h3⟩ := numG_stays (s := r) (x := x) (h.imp id fun h => ⟨h.1, h.2.1⟩)
  have hn : numN (r ++ x) = numN r := by unfold numN; rw [h1, h3]
  unfold takeNum
  rw [h3, hn]
  have hc : (((r ++ x).drop (numN r)).head? = some 59) ↔ ((r.drop (numN r)).head? = some 59) := by
    rcases Nat.lt_or_ge (numN r) r.length with hl | hl
    · rw [drop_head hl]
    · rcases h with h | h
      · omega
      · have hle := numN_le r
        have he : numN r = r.length := by omega
        rw [he, List.drop_left, List.drop_length]
        simp [h.2.2]
  simp only [hc]

/-! names -/
theorem keys_names : ∀ k ∈ keys, ∃ p ∈ bareT ++ boundT, k.1 = p.1 ∨ k.1 = p.1 ++ [59] := by
  intro k hk
  unfold keys at hk
  rcases List.mem_append.1 hk with hk | hk
  · rcases List.mem_append.1 hk with hk | hk
    · exact ⟨k, List.mem_append_left _ hk, .inl rfl⟩
    · obtain ⟨p, hp, rfl⟩ := List.mem_map.1 hk
      exact ⟨p, List.mem_append_left _ hp, .inr rfl⟩
  · obtain ⟨p, hp, rfl⟩ := List.mem_map.1 hk
    exact ⟨p, List.mem_append_right _ hp, .inr rfl⟩
theorem begins_of {p : Str × Str} (hp : p ∈ bareT ++ boundT) {r : Str} (h : r <+: p.1) : beginsF r = true := by
  unfold beginsF
  exact List.any_eq_true.2 ⟨p, hp, List.isPrefixOf_iff_prefix.2 h⟩
/-- a text that begins no name stays as it is -/
theorem keys_stay {r x : Str} (hb : beginsF r = false) : ∀ k ∈ keys, k.1 <+: r ++ x → k.1 <+: r := by
  intro k hk hp
  rcases Nat.lt_or_ge r.length k.1.length with hl | hl
  · exfalso
    have h1 : r <+: k.1 := List.prefix_of_prefix_length_le (List.prefix_append _ _) hp (by omega)
    obtain ⟨p, hp', he⟩ := keys_names k hk
    have h2 : r <+: p.1 := by
      rcases he with he | he
      · rw [← he]; exact h1
      · refine List.prefix_of_prefix_length_le h1 ?_ ?_
        · rw [he]; exact List.prefix_append _ _
        · rw [he] at hl; simp at hl; omega
    rw [begins_of hp' h2] at hb
    cases hb
  · exact List.prefix_of_prefix_length_le hp (List.prefix_append _ _) hl
theorem refused_stays {r x : Str} {attr : Bool} (hf : findF (r ++ x) = findF r)
    (h : (findF r).2 = r.length → 0 < r.length → (r.getLast? = some 59 ∨ ((x.head?).map wordB).getD false = false)) : refused (r ++ x) attr = refused r attr := by
  have hle := findF_le r
  unfold refused
  rw [hf, List.take_append_of_le_length hle]
  rcases Nat.lt_or_ge (findF r).2 r.length with hl | hl
  · rw [drop_head hl]
  · have he : (findF r).2 = r.length := by omega
    rw [he, List.drop_left, List.drop_length, List.take_length]
    rcases Nat.eq_zero_or_pos r.length with h0 | h0
    · simp [h0]
    · rcases h he h0 with h | h <;> simp [h]
theorem takeName_le (r : Str) (attr : Bool) : (takeName r attr).2 ≤ r.length + 1 := by
  have := findF_le r
  unfold takeName
  split
  · exact Nat.zero_le _
  · simp only; omega
theorem takeName_stays {r x : Str} {attr : Bool} (hf : findF (r ++ x) = findF r)
    (h : (findF r).2 = r.length → 0 < r.length → (r.getLast? = some 59 ∨ ((x.head?).map wordB).getD false = false)) : takeName (r ++ x) attr = takeName r attr := by
  unfold takeName
  rw [hf, refused_stays hf h]

/-! references -/
theorem takeF_hash (r : Str) (attr : Bool) : takeF (38 :: 35 :: r) attr = takeNum r := by simp [takeF]
theorem takeF_amp {r : Str} (h : r.head? ≠ some 35) (attr : Bool) : takeF (38 :: r) attr = takeName r attr := by
  cases r with
  | nil => simp [takeF]
  | cons c r =>
    have hc : ¬ 35 = c := fun e => h (by simp [e])
    simp [takeF, hc]
theorem takeF_other {c : UInt8} {r : Str} (h : c ≠ 38) (attr : Bool) : takeF (c :: r) attr = ([], 0) := by
  have hc : ¬ 38 = c := fun e => h e.symm
  simp [takeF, hc]
theorem takeF_nil (attr : Bool) : takeF [] attr = ([], 0) := by simp [takeF]
theorem moreF_hash (r : Str) : moreF (38 :: 35 :: r) = (numN r == r.length) := by simp [moreF]
theorem moreF_amp {r : Str} (h : r.head? ≠ some 35) : moreF (38 :: r) = beginsF r := by
  cases r with
  | nil => simp [moreF]
  | cons c r =>
    have hc : ¬ 35 = c := fun e => h (by simp [e])
    simp [moreF, hc]
/-- what a text begins with -/
theorem amp_cases (s : Str) : (∃ r, s = 38 :: 35 :: r) ∨ (∃ r, s = 38 :: r ∧ r.head? ≠ some 35) ∨ (∃ c r, s = c :: r ∧ c ≠ 38) ∨ s = [] := by
  cases s with
  | nil => exact .inr (.inr (.inr rfl))
  | cons c r =>
    by_cases hc : c = 38
    · subst hc
      cases r with
      | nil => exact .inr (.inl ⟨[], rfl, by simp⟩)
      | cons d r =>
        by_cases hd : d = 35
        · subst hd; exact .inl ⟨r, rfl⟩
        · exact .inr (.inl ⟨d :: r, rfl, by simpa using hd⟩)
    · exact .inr (.inr (.inl ⟨c, r, rfl, hc⟩))
theorem takeF_le (s : Str) (attr : Bool) : (takeF s attr).2 ≤ s.length := by
  rcases amp_cases s with ⟨r, rfl⟩ | ⟨r, rfl, h⟩ | ⟨c, r, rfl, h⟩ | rfl
  · rw [takeF_hash]; have := takeNum_le r; simp only [List.length_cons]; omega
  · rw [takeF_amp h]; have := takeName_le r attr; simp only [List.length_cons]; omega
  · rw [takeF_other h]; exact Nat.zero_le _
  · rw [takeF_nil]; exact Nat.zero_le _

/-- where no more can be told, what is behind changes nothing -/
theorem takeF_more {s : Str} (x : Str) (attr : Bool) (hs : s ≠ []) (h : moreF s = false) : takeF (s ++ x) attr = takeF s attr := by
  rcases amp_cases s with ⟨r, rfl⟩ | ⟨r, rfl, hr⟩ | ⟨c, r, rfl, hc⟩ | rfl
  · rw [moreF_hash] at h
    have hne : numN r ≠ r.length := by simpa using h
    have hle := numN_le r
    rw [List.cons_append, List.cons_append, takeF_hash, takeF_hash]
    exact takeNum_stays (.inl (by omega))
  · rw [moreF_amp hr] at h
    have hr' : (r ++ x).head? ≠ some 35 := by
      cases r with
      | nil => exact absurd h (by decide +kernel)
      | cons c r => simpa using hr
    rw [List.cons_append, takeF_amp hr', takeF_amp hr]
    refine takeName_stays (findF_append r x (keys_stay h)) fun he h0 => .inl ?_
    rcases (findF_spec r).1 with ⟨h1, _⟩ | ⟨_, _, hk⟩
    · omega
    · rw [he, List.take_length] at hk
      obtain ⟨p, hp, hpe⟩ := keys_names _ hk
      rcases hpe with hpe | hpe
      · have := begins_of hp (r := r) (by rw [← hpe]; exact List.prefix_rfl)
        rw [this] at h; cases h
      · simp only at hpe
        rw [hpe]; simp
  · rw [List.cons_append, takeF_other hc, takeF_other hc]
  · exact absurd rfl hs

/-- < goes on no reference -/
theorem takeF_stop (s x : Str) (attr : Bool) : takeF (s ++ 60 :: x) attr = takeF s attr := by
  rcases amp_cases s with ⟨r, rfl⟩ | ⟨r, rfl, hr⟩ | ⟨c, r, rfl, hc⟩ | rfl
  · rw [List.cons_append, List.cons_append, takeF_hash, takeF_hash]
    refine takeNum_stays (.inr ⟨rfl, fun c hc => ?_, by simp⟩)
    obtain rfl : 60 = c := by simpa using hc
    exact ⟨by decide, by decide⟩
  · have hr' : (r ++ 60 :: x).head? ≠ some 35 := by
      cases r with
      | nil => simp
      | cons c r => simpa using hr
    rw [List.cons_append, takeF_amp hr', takeF_amp hr]
    have hk : ∀ k ∈ keys, (60 : UInt8) ∉ k.1 := by decide +kernel
    refine takeName_stays (findF_append r _ fun k hk' hp => prefix_stop (hk k hk') hp) fun _ _ => .inr ?_
    show (some (wordB 60)).getD false = false
    decide
  · rw [List.cons_append, takeF_other hc, takeF_other hc]
  · rw [List.nil_append, takeF_other (by decide), takeF_nil]

/-! all of a text -/
theorem allF_fuel (attr : Bool) : ∀ (n : Nat) (s : Str) (k : Nat), s.length ≤ n → s.length ≤ k → allF attr k s = allS s attr := by
  intro n
  induction n with
  | zero =>
    intro s k hs hk
    have : s = [] := List.eq_nil_of_length_eq_zero (by omega)
    subst this
    cases k <;> rfl
  | succ n ih =>
    intro s k hs hk
    cases s with
    | nil => cases k <;> rfl
    | cons c r =>
      cases k with
      | zero => simp at hk
      | succ k =>
        simp only [List.length_cons] at hs hk
        unfold allS
        simp only [List.length_cons, allF]
        by_cases h : c = 38 ∧ (takeF (c :: r) attr).2 ≠ 0
        · rw [if_pos h, if_pos h]
          have hl : ((c :: r).drop (takeF (c :: r) attr).2).length ≤ r.length := by
            rw [List.length_drop, List.length_cons]; have := h.2; omega
          rw [ih _ k (by omega) (by omega), ih _ r.length (by omega) hl]
        · rw [if_neg h, if_neg h, ih r k (by omega) (by omega), ih r r.length (by omega) (Nat.le_refl _)]
theorem allS_nil (attr : Bool) : allS [] attr = [] := rfl
theorem allS_cons (c : UInt8) (r : Str) (attr : Bool) : allS (c :: r) attr = if c = 38 ∧ (takeF (c :: r) attr).2 ≠ 0 then (takeF (c :: r) attr).1 ++ allS ((c :: r).drop (takeF (c :: r) attr).2) attr else c :: allS r attr := by
  rw [allS, List.length_cons, allF]
  by_cases h : c = 38 ∧ (takeF (c :: r) attr).2 ≠ 0
  · rw [if_pos h, if_pos h]
    have hl : ((c :: r).drop (takeF (c :: r) attr).2).length ≤ r.length := by
      rw [List.length_drop, List.length_cons]; have := h.2; omega
    rw [allF_fuel attr _ _ _ (Nat.le_refl _) hl]
  · rw [if_neg h, if_neg h, allF_fuel attr _ _ _ (Nat.le_refl _) (Nat.le_refl _)]
theorem allS_other {c : UInt8} {r : Str} {attr : Bool} (h : c ≠ 38) : allS (c :: r) attr = c :: allS r attr := by
  rw [allS_cons, if_neg fun h' => h h'.1]
/-- a text without & -/
theorem allS_plain (attr : Bool) : ∀ s : Str, (∀ c ∈ s, c ≠ 38) → allS s attr = s
  | [], _ => rfl
  | c :: r, h => by rw [allS_other (h c List.mem_cons_self), allS_plain attr r fun d hd => h d (List.mem_cons_of_mem _ hd)]
/-- a text before < and one behind it -/
theorem allS_two (attr : Bool) (b : Str) : ∀ (n : Nat) (a : Str), a.length ≤ n → allS (a ++ 60 :: b) attr = allS a attr ++ 60 :: allS b attr := by
  intro n
  induction n with
  | zero =>
    intro a ha
    have : a = [] := List.eq_nil_of_length_eq_zero (by omega)
    subst this
    rw [List.nil_append, allS_other (by decide)]; rfl
  | succ n ih =>
    intro a ha
    cases a with
    | nil => rw [List.nil_append, allS_other (by decide)]; rfl
    | cons c r =>
      simp only [List.length_cons] at ha
      have hs := takeF_stop (c :: r) b attr
      have hle := takeF_le (c :: r) attr
      rw [List.cons_append] at hs
      rw [List.cons_append, allS_cons, allS_cons c r, hs]
      by_cases h : c = 38 ∧ (takeF (c :: r) attr).2 ≠ 0
      · rw [if_pos h, if_pos h, List.append_assoc, ← List.cons_append, List.drop_append_of_le_length hle, ih]
        rw [List.length_drop, List.length_cons]; have := h.2; omega
      · rw [if_neg h, if_neg h, ih r (by omega), List.cons_append]

/-! what is written -/
theorem allS_name {k : Str × Str} (hk : k ∈ keys) (hs : k.1.getLast? = some 59) (x : Str) (attr : Bool) : allS (38 :: (k.1 ++ x)) attr = k.2 ++ allS x attr := by
  have h35 : ∀ k ∈ keys, k.1.head? ≠ some 35 ∧ k.1 ≠ [] := by decide +kernel
  obtain ⟨g1, g2⟩ := h35 k hk
  have hf := findF_semi hk hs x
  have hr : refused (k.1 ++ x) attr = false := by
    unfold refused
    rw [hf]
    have h1 := (keys_hit k hk).2.2.1
    have h2 : (k.1.length == 0) = false := by simp; exact g2
    simp only [List.take_left, hs, h2]
    simp
  have hh : (k.1 ++ x).head? ≠ some 35 := by
    cases hk1 : k.1 with
    | nil => exact absurd hk1 g2
    | cons c r => rw [hk1] at g1; simpa using g1
  have ht : takeF (38 :: (k.1 ++ x)) attr = (k.2, k.1.length + 1) := by rw [takeF_amp hh, takeName, hr, hf]; rfl
  rw [allS_cons, ht]
  simp
theorem allS_escG (attr other : Bool) : ∀ (s : Str) (skip : Bool), allS (escG attr skip s) other = if skip then s.drop 1 else s
  | [], skip => by cases skip <;> rfl
  | c :: r, true => by
    rw [escG, allS_escG attr other r false]
    rfl
  | c :: r, false => by
    rw [escG]
    by_cases h : c = 194 ∧ r.head? = some 160
    · rw [if_pos h]
      have := allS_name (k := ([110, 98, 115, 112, 59], [194, 160])) (by decide +kernel) (by decide) (escG attr true r) other
      rw [show ([38, 110, 98, 115, 112, 59] : Str) ++ escG attr true r = 38 :: (([110, 98, 115, 112, 59], ([194, 160] : Str)).1 ++ escG attr true r) from rfl, this, allS_escG attr other r true]
      obtain ⟨rfl, hr⟩ := h
      cases r with
      | nil => simp at hr
      | cons d r =>
        obtain rfl : d = 160 := by simpa using hr
        rfl
    · rw [if_neg h]
      unfold escOne
      split
      · rename_i hc
        have := allS_name (k := ([97, 109, 112, 59], [38])) (by decide +kernel) (by decide) (escG attr false r) other
        rw [show ([38, 97, 109, 112, 59] : Str) ++ escG attr false r = 38 :: (([97, 109, 112, 59], ([38] : Str)).1 ++ escG attr false r) from rfl, this, allS_escG attr other r false, hc]
        rfl
      · split
        · rename_i hc
          have := allS_name (k := ([108, 116, 59], [60])) (by decide +kernel) (by decide) (escG attr false r) other
          rw [show ([38, 108, 116, 59] : Str) ++ escG attr false r = 38 :: (([108, 116, 59], ([60] : Str)).1 ++ escG attr false r) from rfl, this, allS_escG attr other r false, hc]
          rfl
        · split
          · rename_i hc
            have := allS_name (k := ([103, 116, 59], [62])) (by decide +kernel) (by decide) (escG attr false r) other
            rw [show ([38, 103, 116, 59] : Str) ++ escG attr false r = 38 :: (([103, 116, 59], ([62] : Str)).1 ++ escG attr false r) from rfl, this, allS_escG attr other r false, hc]
            rfl
          · split
            · rename_i hc
              have := allS_name (k := ([113, 117, 111, 116, 59], [34])) (by decide +kernel) (by decide) (escG attr false r) other
              rw [show ([38, 113, 117, 111, 116, 59] : Str) ++ escG attr false r = 38 :: (([113, 117, 111, 116, 59], ([34] : Str)).1 ++ escG attr false r) from rfl, this, allS_escG attr other r false, hc.1]
              rfl
            · rename_i hc _ _ _
              rw [List.singleton_append, allS_other hc, allS_escG attr other r false]
              rfl
theorem allS_escS (s : Str) (attr other : Bool) : allS (escS attr s) other = s := by
  rw [escS, allS_escG]; rfl
/-- no bare sign is in what is written -/
theorem escG_signs (attr : Bool) : ∀ (s : Str) (skip : Bool), ∀ c ∈ escG attr skip s, c ≠ 60 ∧ c ≠ 62 ∧ (attr = true → c ≠ 34)
  | [], skip, c, h => by cases skip <;> cases h
  | d :: r, true, c, h => escG_signs attr r false c (by rwa [escG] at h)
  | d :: r, false, c, h => by
    rw [escG] at h
    by_cases hd : d = 194 ∧ r.head? = some 160
    · rw [if_pos hd] at h
      rcases List.mem_append.1 h with h | h
      · have : ∀ c ∈ ([38, 110, 98, 115, 112, 59] : Str), c ≠ 60 ∧ c ≠ 62 ∧ (attr = true → c ≠ 34) := by cases attr <;> decide
        exact this c h
      · exact escG_signs attr r true c h
    · rw [if_neg hd] at h
      rcases List.mem_append.1 h with h | h
      · unfold escOne at h
        split at h
        · have : ∀ c ∈ ([38, 97, 109, 112, 59] : Str), c ≠ 60 ∧ c ≠ 62 ∧ (attr = true → c ≠ 34) := by cases attr <;> decide
          exact this c h
        · split at h
          · have : ∀ c ∈ ([38, 108, 116, 59] : Str), c ≠ 60 ∧ c ≠ 62 ∧ (attr = true → c ≠ 34) := by cases attr <;> decide
            exact this c h
          · split at h
            · have : ∀ c ∈ ([38, 103, 116, 59] : Str), c ≠ 60 ∧ c ≠ 62 ∧ (attr = true → c ≠ 34) := by cases attr <;> decide
              exact this c h
            · split at h
              · have : ∀ c ∈ ([38, 113, 117, 111, 116, 59] : Str), c ≠ 60 ∧ c ≠ 62 ∧ (attr = true → c ≠ 34) := by cases attr <;> decide
                exact this c h
              · rename_i _ h60 h62 h34
                obtain rfl : c = d := by simpa using h
                exact ⟨h60, h62, fun ha e => h34 ⟨e, ha⟩⟩
      · exact escG_signs attr r false c h
theorem escOne_len (attr : Bool) (c : UInt8) : (escOne attr c).length ≤ 6 := by
  unfold escOne
  split
  · decide
  · split
    · decide
    · split
      · decide
      · split
        · decide
        · simp
theorem escG_len (attr : Bool) : ∀ (s : Str) (skip : Bool), (escG attr skip s).length ≤ 6 * s.length
  | [], skip => by cases skip <;> simp [escG]
  | d :: r, true => by
    have := escG_len attr r false
    rw [escG]; simp only [List.length_cons]; omega
  | d :: r, false => by
    have h1 := escG_len attr r false
    have h2 := escG_len attr r true
    have h3 := escOne_len attr d
    rw [escG]
    split <;> simp only [List.length_append, List.length_cons, List.length_nil] <;> omega
end Go.Proofs.YtbabcohidpcjjaaGreat
