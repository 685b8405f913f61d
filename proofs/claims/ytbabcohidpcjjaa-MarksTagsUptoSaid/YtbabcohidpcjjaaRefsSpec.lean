/-
  What a reference stands for: plain Lean over lists of bytes, no Go. (Layer 12.) No conditions beyond those that each lemma types.
-/
import Derived.Test.YtbabcohidpcjjaaMem
namespace Go.Proofs.Ytbabcohidpcjjaa
open Mem

def bareT : List (Str × Str) := [([113, 117, 111, 116], [34]),
  ([97, 109, 112], [38]),
  ([65, 77, 80], [38]),
  ([108, 116], [60]),
  ([76, 84], [60]),
  ([103, 116], [62]),
  ([110, 98, 115, 112], [194, 160]),
  ([99, 111, 112, 121], [194, 169]),
  ([114, 101, 103], [194, 174]),
  ([110, 111, 116], [194, 172]),
  ([112, 97, 114, 97], [194, 182]),
  ([116, 105, 109, 101, 115], [195, 151]),
  ([100, 105, 118, 105, 100, 101], [195, 183]),
  ([101, 97, 99, 117, 116, 101], [195, 169]),
  ([69, 84, 72], [195, 144]),
  ([115, 122, 108, 105, 103], [195, 159])]
def boundT : List (Str × Str) := [([97, 112, 111, 115], [39]),
  ([110, 111, 116, 105, 110], [226, 136, 137]),
  ([99, 111, 112, 121, 115, 114], [226, 132, 151]),
  ([112, 97, 114, 97, 108, 108, 101, 108], [226, 136, 165]),
  ([116, 105, 109, 101, 115, 98], [226, 138, 160]),
  ([108, 116, 105, 109, 101, 115], [226, 139, 137]),
  ([103, 116, 100, 111, 116], [226, 139, 151]),
  ([104, 101, 108, 108, 105, 112], [226, 128, 166]),
  ([110, 100, 97, 115, 104], [226, 128, 147]),
  ([109, 100, 97, 115, 104], [226, 128, 148]),
  ([108, 115, 113, 117, 111], [226, 128, 152]),
  ([114, 115, 113, 117, 111], [226, 128, 153]),
  ([108, 100, 113, 117, 111], [226, 128, 156]),
  ([114, 100, 113, 117, 111], [226, 128, 157]),
  ([101, 117, 114, 111], [226, 130, 172]),
  ([116, 114, 97, 100, 101], [226, 132, 162]),
  ([108, 97, 114, 114], [226, 134, 144]),
  ([114, 97, 114, 114], [226, 134, 146]),
  ([84, 97, 98], [9]),
  ([78, 101, 119, 76, 105, 110, 101], [10]),
  ([99, 111, 108, 111, 110], [58]),
  ([115, 111, 108], [47]),
  ([113, 117, 101, 115, 116], [63]),
  ([108, 112, 97, 114], [40]),
  ([122, 119, 106], [226, 128, 141]),
  ([78, 111, 116, 69, 113, 117, 97, 108, 84, 105, 108, 100, 101], [226, 137, 130, 204, 184]),
  ([84, 104, 105, 99, 107, 83, 112, 97, 99, 101], [226, 129, 159, 226, 128, 138]),
  ([110, 118, 108, 116], [60, 226, 131, 146])]
def namesT : List (Str × Nat × Nat × Bool) := [([97, 109, 112], 38, 0, true),
  ([65, 77, 80], 38, 0, true),
  ([108, 116], 60, 0, true),
  ([76, 84], 60, 0, true),
  ([103, 116], 62, 0, true),
  ([113, 117, 111, 116], 34, 0, true),
  ([110, 98, 115, 112], 160, 0, true),
  ([99, 111, 112, 121], 169, 0, true),
  ([114, 101, 103], 174, 0, true),
  ([110, 111, 116], 172, 0, true),
  ([112, 97, 114, 97], 182, 0, true),
  ([116, 105, 109, 101, 115], 215, 0, true),
  ([100, 105, 118, 105, 100, 101], 247, 0, true),
  ([101, 97, 99, 117, 116, 101], 233, 0, true),
  ([69, 84, 72], 208, 0, true),
  ([115, 122, 108, 105, 103], 223, 0, true),
  ([97, 112, 111, 115], 39, 0, false),
  ([110, 111, 116, 105, 110], 8713, 0, false),
  ([99, 111, 112, 121, 115, 114], 8471, 0, false),
  ([112, 97, 114, 97, 108, 108, 101, 108], 8741, 0, false),
  ([116, 105, 109, 101, 115, 98], 8864, 0, false),
  ([108, 116, 105, 109, 101, 115], 8905, 0, false),
  ([103, 116, 100, 111, 116], 8919, 0, false),
  ([104, 101, 108, 108, 105, 112], 8230, 0, false),
  ([110, 100, 97, 115, 104], 8211, 0, false),
  ([109, 100, 97, 115, 104], 8212, 0, false),
  ([108, 115, 113, 117, 111], 8216, 0, false),
  ([114, 115, 113, 117, 111], 8217, 0, false),
  ([108, 100, 113, 117, 111], 8220, 0, false),
  ([114, 100, 113, 117, 111], 8221, 0, false),
  ([101, 117, 114, 111], 8364, 0, false),
  ([116, 114, 97, 100, 101], 8482, 0, false),
  ([108, 97, 114, 114], 8592, 0, false),
  ([114, 97, 114, 114], 8594, 0, false),
  ([84, 97, 98], 9, 0, false),
  ([78, 101, 119, 76, 105, 110, 101], 10, 0, false),
  ([99, 111, 108, 111, 110], 58, 0, false),
  ([115, 111, 108], 47, 0, false),
  ([113, 117, 101, 115, 116], 63, 0, false),
  ([108, 112, 97, 114], 40, 0, false),
  ([122, 119, 106], 8205, 0, false),
  ([78, 111, 116, 69, 113, 117, 97, 108, 84, 105, 108, 100, 101], 8770, 824, false),
  ([84, 104, 105, 99, 107, 83, 112, 97, 99, 101], 8287, 8202, false),
  ([110, 118, 108, 116], 60, 8402, false)]

/-- the bytes of a character -/
def encF (c : Nat) : Str :=
  if c < 0x80 then [UInt8.ofNat c]
  else if c < 0x800 then [UInt8.ofNat (0xc0 + c / 64), UInt8.ofNat (0x80 + c % 64)]
  else if c < 0x10000 then [UInt8.ofNat (0xe0 + c / 4096), UInt8.ofNat (0x80 + c / 64 % 64), UInt8.ofNat (0x80 + c % 64)]
  else [UInt8.ofNat (0xf0 + c / 262144), UInt8.ofNat (0x80 + c / 4096 % 64), UInt8.ofNat (0x80 + c / 64 % 64), UInt8.ofNat (0x80 + c % 64)]
def charB (n : Int) : Bool := decide (0 ≤ n) && decide (n ≤ 0x10ffff) && !(decide (0xd800 ≤ n) && decide (n ≤ 0xdfff))
def oddT : List Nat := [0x20ac, 0x81, 0x201a, 0x192, 0x201e, 0x2026, 0x2020, 0x2021, 0x2c6, 0x2030, 0x160, 0x2039, 0x152, 0x8d, 0x17d, 0x8f,
  0x90, 0x2018, 0x2019, 0x201c, 0x201d, 0x2022, 0x2013, 0x2014, 0x2dc, 0x2122, 0x161, 0x203a, 0x153, 0x9d, 0x17e, 0x178]
/-- the number of a character that a number stands for -/
def numC (n : Int) : Nat := if n = 0 ∨ charB n = false then 0xfffd else if 0x80 ≤ n ∧ n < 0xa0 then oddT.getD (n.toNat - 0x80) 0 else n.toNat
def numF (n : Int) : Str := encF (numC n)

/-! names -/
def look : List (Str × Str) → Str → Str
  | [], _ => []
  | p :: r, x => if x == p.1 then p.2 else look r x
def semi (p : Str × Str) : Str × Str := (p.1 ++ [59], p.2)
/-- what a text that is all a name stands for -/
def hitF (p : Str) : Str :=
  if ([59] : Str).isSuffixOf p then (if look bareT (p.take (p.length - 1)) ≠ [] then look bareT (p.take (p.length - 1)) else look boundT (p.take (p.length - 1)))
  else look bareT p
def findUp (s : Str) : Nat → Str × Nat
  | 0 => ([], 0)
  | n + 1 => if hitF (s.take (n + 1)) ≠ [] then (hitF (s.take (n + 1)), n + 1) else findUp s n
def findF (s : Str) : Str × Nat := findUp s (min s.length 14)
def keys : List (Str × Str) := bareT ++ bareT.map semi ++ boundT.map semi
/-- a text goes on to a name that is longer, with its ; -/
def beginsF (s : Str) : Bool := (bareT ++ boundT).any fun p => s.isPrefixOf p.1

/-! numbers -/
def digV (n : Nat) : Nat := if 48 ≤ n ∧ n ≤ 57 then n - 48 else if 97 ≤ n ∧ n ≤ 102 then n - 97 + 10 else if 65 ≤ n ∧ n ≤ 70 then n - 65 + 10 else 99
def digF (base : Nat) (c : UInt8) : Option Nat := if digV c.toNat < base then some (digV c.toNat) else none
/-- digits, k at most: how many, what they say (no more than 110000 in base sixteen) -/
def digsF (base : Nat) : Nat → Str → Nat → Nat × Nat
  | 0, _, v => (0, v)
  | _ + 1, [], v => (0, v)
  | k + 1, c :: r, v => match digF base c with
    | none => (0, v)
    | some d => ((digsF base k r (min (v * base + d) 0x110000)).1 + 1, (digsF base k r (min (v * base + d) 0x110000)).2)
def xB (s : Str) : Bool := match s with
  | [] => false
  | c :: _ => c == 120 || c == 88
def headN (s : Str) : Nat := if xB s then 1 else 0
def baseN (s : Str) : Nat := if xB s then 16 else 10
/-- behind &#: how many digits, what they say -/
def numG (s : Str) : Nat × Nat := digsF (baseN s) 16 (s.drop (headN s)) 0
/-- how many bytes, with the x -/
def numN (s : Str) : Nat := headN s + (numG s).1

/-! references -/
def wordB (c : UInt8) : Bool := (48 ≤ c && c ≤ 57) || (97 ≤ c && c ≤ 122) || (65 ≤ c && c ≤ 90) || c == 61
def takeNum (r : Str) : Str × Nat :=
  if (numG r).1 = 0 then ([], 0) else (numF (numG r).2, (if (r.drop (numN r)).head? = some 59 then numN r + 1 else numN r) + 2)
def refused (r : Str) (attr : Bool) : Bool :=
  (findF r).2 == 0 || (attr && !((r.take (findF r).2).getLast? == some 59) && (((r.drop (findF r).2).head?).map wordB).getD false)
def takeName (r : Str) (attr : Bool) : Str × Nat := if refused r attr then ([], 0) else ((findF r).1, (findF r).2 + 1)
def takeF (s : Str) (attr : Bool) : Str × Nat :=
  if ([38, 35] : Str).isPrefixOf s then takeNum (s.drop 2) else if ([38] : Str).isPrefixOf s then takeName (s.drop 1) attr else ([], 0)
def moreF (s : Str) : Bool :=
  if ([38, 35] : Str).isPrefixOf s then numN (s.drop 2) == (s.drop 2).length else if ([38] : Str).isPrefixOf s then beginsF (s.drop 1) else false
/-- all references replaced -/
def allF (attr : Bool) : Nat → Str → Str
  | 0, _ => []
  | _ + 1, [] => []
  | k + 1, c :: r => if c = 38 ∧ (takeF (c :: r) attr).2 ≠ 0 then (takeF (c :: r) attr).1 ++ allF attr k ((c :: r).drop (takeF (c :: r) attr).2) else c :: allF attr k r
def allS (s : Str) (attr : Bool) : Str := allF attr s.length s
/-- a text as it must be written -/
def escOne (attr : Bool) (c : UInt8) : Str := if c = 38 then [38, 97, 109, 112, 59] else if c = 60 then [38, 108, 116, 59] else if c = 62 then [38, 103, 116, 59] else if c = 34 ∧ attr = true then [38, 113, 117, 111, 116, 59] else [c]
def escG (attr : Bool) : Bool → Str → Str
  | _, [] => []
  | true, _ :: r => escG attr false r
  | false, c :: r => if c = 194 ∧ r.head? = some 160 then [38, 110, 98, 115, 112, 59] ++ escG attr true r else escOne attr c ++ escG attr false r
def escS (attr : Bool) (s : Str) : Str := escG attr false s
end Go.Proofs.Ytbabcohidpcjjaa
