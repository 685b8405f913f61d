/-
  Contracts: Name, Point of foreign and of colanderref16: what each computes; the world behind has new blocks alone.
-/
import Derived.Test.YtflphgmblipglaaForA
namespace Go.Proofs.Ytflphgmblipglaa
open Go.RowKit Mem

def svgNames : List ByteArray := [⟨#[97, 108, 116, 71, 108, 121, 112, 104]⟩, ⟨#[97, 110, 105, 109, 97, 116, 101, 77, 111, 116, 105, 111, 110]⟩, ⟨#[97, 110, 105, 109, 97, 116, 101, 84, 114, 97, 110, 115, 102, 111, 114, 109]⟩, ⟨#[99, 108, 105, 112, 80, 97, 116, 104]⟩, ⟨#[102, 101, 71, 97, 117, 115, 115, 105, 97, 110, 66, 108, 117, 114]⟩, ⟨#[102, 111, 114, 101, 105, 103, 110, 79, 98, 106, 101, 99, 116]⟩, ⟨#[103, 108, 121, 112, 104, 82, 101, 102]⟩, ⟨#[108, 105, 110, 101, 97, 114, 71, 114, 97, 100, 105, 101, 110, 116]⟩, ⟨#[114, 97, 100, 105, 97, 108, 71, 114, 97, 100, 105, 101, 110, 116]⟩, ⟨#[116, 101, 120, 116, 80, 97, 116, 104]⟩]
def pageNames : List ByteArray := [⟨#[102, 111, 114, 101, 105, 103, 110, 79, 98, 106, 101, 99, 116]⟩, ⟨#[100, 101, 115, 99]⟩, ⟨#[116, 105, 116, 108, 101]⟩]
def textNames : List ByteArray := [⟨#[109, 105]⟩, ⟨#[109, 111]⟩, ⟨#[109, 110]⟩, ⟨#[109, 115]⟩, ⟨#[109, 116, 101, 120, 116]⟩]
def encNames : List ByteArray := [⟨#[116, 101, 120, 116, 47, 104, 116, 109, 108]⟩, ⟨#[97, 112, 112, 108, 105, 99, 97, 116, 105, 111, 110, 47, 120, 104, 116, 109, 108, 43, 120, 109, 108]⟩]

def nameF (space : Int) (name : ByteArray) : ByteArray := if space = 1 then large svgNames name else name

set_option maxHeartbeats 400000 in
theorem refName_any (space : Int) (name : ByteArray) (w : World) :
    Calls Try.prog 25 #[.int .i64 space, .string name] w fun e w' => e = .returned (.string (nameF space name)) ∧ Below w.heap.size w w' := by
  by_cases h : space = 1
  · subst h
    go_enter Try.func25, Try.ntmps25
    go_wp2_with (go_at_call 65; refine (large_any name svgNames _ _ _ (by decide) (by decide) (Row.alloc _ _ _).at).mono ?_; rintro e w1 ⟨rfl, hb1⟩; have HB1 := Lib.hid hb1; clear hb1)
    go_ret
    exact ⟨ret_string rfl, belowCall ((Below.refl _ _).alloc (Nat.le_refl _) _) HB1.out⟩
  · have h' : (space == 1) = false := by simpa using h
    go_enter Try.func25, Try.ntmps25
    go_wp2
    go_ret
    exact ⟨ret_string (by rw [nameF, if_neg h]), Below.refl _ _⟩

set_option maxHeartbeats 400000 in
theorem name_any (space : Int) (name : ByteArray) (w : World) :
    Calls Try.prog 24 #[.int .i64 space, .string name] w fun e w' => e = .returned (.string (nameF space name)) ∧ Below w.heap.size w w' := by
  by_cases h : space = 1
  · subst h
    go_enter Try.func24, Try.ntmps24
    go_wp2_with (go_at_call 66; refine (written_any name svgNames _ _ _ (by decide) (by decide) (Row.alloc _ _ _).at).mono ?_; rintro e w1 ⟨rfl, hb1⟩; have HB1 := Lib.hid hb1; clear hb1)
    go_ret
    exact ⟨ret_string rfl, belowCall ((Below.refl _ _).alloc (Nat.le_refl _) _) HB1.out⟩
  · have h' : (space == 1) = false := by simpa using h
    go_enter Try.func24, Try.ntmps24
    go_wp2
    go_ret
    exact ⟨ret_string (by rw [nameF, if_neg h]), Below.refl _ _⟩

def pointF (space : Int) (name : ByteArray) (attrs : List Pair) : Int :=
  if space = 1 then (if isIn pageNames name then 2 else 0)
  else if space = 2 then (if isIn textNames name then 1 else if name = (⟨#[97, 110, 110, 111, 116, 97, 116, 105, 111, 110, 45, 120, 109, 108]⟩ : ByteArray) then (if isIn encNames ⟨(lowS (valueOf attrs (⟨#[101, 110, 99, 111, 100, 105, 110, 103]⟩ : ByteArray)).toList).toArray⟩ then 2 else 0) else 0)
  else 0

theorem mk_eq_iff (l : Str) (b : ByteArray) : ((⟨l.toArray⟩ : ByteArray) = b) ↔ (b.toList = l) :=
  ⟨fun h => by subst h; simp, fun h => toList_inj (by simpa using h.symm)⟩
theorem eq_mk_iff (l : Str) (b : ByteArray) : (b = (⟨l.toArray⟩ : ByteArray)) ↔ (b.toList = l) :=
  ⟨fun h => by subst h; simp, fun h => toList_inj (by simpa using h)⟩

theorem isIn_mem {names : List ByteArray} {x : ByteArray} (h : isIn names x = true) : x ∈ names := by
  induction names with
  | nil => simp [isIn] at h
  | cons y r ih =>
    rw [isIn] at h
    split at h
    · rename_i e; subst e; exact List.mem_cons_self
    · exact List.mem_cons_of_mem _ (ih h)
theorem isIn_of_mem {names : List ByteArray} {x : ByteArray} (h : x ∈ names) : isIn names x = true := by
  induction names with
  | nil => cases h
  | cons y r ih =>
    rw [isIn]
    split
    · rfl
    · rename_i hne
      rcases List.mem_cons.1 h with e | e
      · exact absurd e.symm hne
      · exact ih e
theorem isIn_no {names : List ByteArray} {L : Str} (h : isIn names ⟨L.toArray⟩ = false) (l : Str) (hm : isIn names ⟨l.toArray⟩ = true) : (L == l) = false := by
  rw [beq_eq_false_iff_ne]
  intro e
  subst e
  rw [hm] at h
  cases h
theorem isIn_mk (names : List ByteArray) (x : ByteArray) : isIn names x = isIn names ⟨x.toList.toArray⟩ := by rw [mk_toList]

set_option maxHeartbeats 400000 in
theorem point_any (space : Int) (name : ByteArray) (attrs : List Pair) (a : Option Addr) (c : Nat) (w : World) (hl : attrs.length ≤ maxLen) (hs : (valueOf attrs (⟨#[101, 110, 99, 111, 100, 105, 110, 103]⟩ : ByteArray)).size ≤ maxLen) (ha : At w a (pairsV attrs)) :
    Calls Try.prog 15 #[.int .i64 space, .string name, .slice a attrs.length c] w fun e w' => e = .returned (.int .i64 (pointF space name attrs)) ∧ Below w.heap.size w w' := by
  have HA := Lib.hid ha
  clear ha
  by_cases h1 : space = 1
  · subst h1
    clear hl hs
    by_cases hin : isIn pageNames name = true
    · have HP : Hid (pointF 1 name attrs = 2) := by show pointF 1 name attrs = 2; simp [pointF, hin]
      have h := isIn_mem hin
      clear hin
      simp only [pageNames, List.mem_cons, List.not_mem_nil, or_false, eq_mk_iff] at h
      rcases h with h | h | h
      all_goals
        go_enter Try.func15, Try.ntmps15
        go_wp2_with fail
        go_ret
        exact ⟨ret_int HP.out.symm, Below.refl _ _⟩
    · have hin' : isIn pageNames name = false := by simpa using hin
      have HP : Hid (pointF 1 name attrs = 0) := by show pointF 1 name attrs = 0; simp [pointF, hin']
      rw [isIn_mk] at hin'
      have no0 : (name.toList == [102, 111, 114, 101, 105, 103, 110, 79, 98, 106, 101, 99, 116]) = false := isIn_no hin' [102, 111, 114, 101, 105, 103, 110, 79, 98, 106, 101, 99, 116] (by decide); have no1 : (name.toList == [100, 101, 115, 99]) = false := isIn_no hin' [100, 101, 115, 99] (by decide); have no2 : (name.toList == [116, 105, 116, 108, 101]) = false := isIn_no hin' [116, 105, 116, 108, 101] (by decide)
      clear hin hin'
      go_enter Try.func15, Try.ntmps15
      go_wp2_with fail
      go_ret
      exact ⟨ret_int HP.out.symm, Below.refl _ _⟩
  · by_cases h2 : space = 2
    · subst h2
      clear h1
      by_cases hin : isIn textNames name = true
      · have HP : Hid (pointF 2 name attrs = 1) := by show pointF 2 name attrs = 1; simp [pointF, hin]
        have h := isIn_mem hin
        clear hin hl hs
        simp only [textNames, List.mem_cons, List.not_mem_nil, or_false, eq_mk_iff] at h
        rcases h with h | h | h | h | h
        all_goals
          go_enter Try.func15, Try.ntmps15
          go_wp2_with fail
          go_ret
          exact ⟨ret_int HP.out.symm, Below.refl _ _⟩
      · have hin' : isIn textNames name = false := by simpa using hin
        have HI := Lib.hid hin'
        rw [isIn_mk] at hin'
        have no0 : (name.toList == [109, 105]) = false := isIn_no hin' [109, 105] (by decide); have no1 : (name.toList == [109, 111]) = false := isIn_no hin' [109, 111] (by decide); have no2 : (name.toList == [109, 110]) = false := isIn_no hin' [109, 110] (by decide); have no3 : (name.toList == [109, 115]) = false := isIn_no hin' [109, 115] (by decide); have no4 : (name.toList == [109, 116, 101, 120, 116]) = false := isIn_no hin' [109, 116, 101, 120, 116] (by decide)
        clear hin hin'
        by_cases han : name = (⟨#[97, 110, 110, 111, 116, 97, 116, 105, 111, 110, 45, 120, 109, 108]⟩ : ByteArray)
        · have han' : name.toList = ([97, 110, 110, 111, 116, 97, 116, 105, 111, 110, 45, 120, 109, 108] : List UInt8) := (eq_mk_iff _ _).1 han
          have HN := Lib.hid han
          clear han
          by_cases hen : isIn encNames ⟨(lowS (valueOf attrs (⟨#[101, 110, 99, 111, 100, 105, 110, 103]⟩ : ByteArray)).toList).toArray⟩ = true
          · have HP : Hid (pointF 2 name attrs = 2) := by show pointF 2 name attrs = 2; rw [pointF, if_neg (by decide), if_pos rfl, HI.out, if_neg (by decide), if_pos HN.out, hen]; rfl
            have h := isIn_mem hen
            clear hen
            simp only [encNames, List.mem_cons, List.not_mem_nil, or_false, eq_mk_iff, ByteArray.toList_mk] at h
            rcases h with h | h
            all_goals
              go_enter Try.func15, Try.ntmps15
              go_wp2_with (first | (go_at_call 63; refine (value_any attrs _ _ _ _ hl HA.out).mono ?_; rintro e w1 ⟨rfl, hb1⟩; have HB1 := Lib.hid hb1; clear hb1) | (go_at_call 62; refine (small_any _ _ hs).mono ?_; rintro e w2 ⟨rfl, hb2⟩; have HB2 := Lib.hid hb2; clear hb2))
              go_ret
              exact ⟨ret_int HP.out.symm, belowCall HB1.out HB2.out⟩
          · have hen' : isIn encNames ⟨(lowS (valueOf attrs (⟨#[101, 110, 99, 111, 100, 105, 110, 103]⟩ : ByteArray)).toList).toArray⟩ = false := by simpa using hen
            have HP : Hid (pointF 2 name attrs = 0) := by show pointF 2 name attrs = 0; rw [pointF, if_neg (by decide), if_pos rfl, HI.out, if_neg (by decide), if_pos HN.out, hen']; rfl
            have HE := Lib.hid hen'
            clear hen hen'
            have ne0 : (lowS (valueOf attrs ⟨#[101, 110, 99, 111, 100, 105, 110, 103]⟩).toList == [116, 101, 120, 116, 47, 104, 116, 109, 108]) = false := isIn_no HE.out [116, 101, 120, 116, 47, 104, 116, 109, 108] (by decide); have ne1 : (lowS (valueOf attrs ⟨#[101, 110, 99, 111, 100, 105, 110, 103]⟩).toList == [97, 112, 112, 108, 105, 99, 97, 116, 105, 111, 110, 47, 120, 104, 116, 109, 108, 43, 120, 109, 108]) = false := isIn_no HE.out [97, 112, 112, 108, 105, 99, 97, 116, 105, 111, 110, 47, 120, 104, 116, 109, 108, 43, 120, 109, 108] (by decide)
            go_enter Try.func15, Try.ntmps15
            go_wp2_with (first | (go_at_call 63; refine (value_any attrs _ _ _ _ hl HA.out).mono ?_; rintro e w1 ⟨rfl, hb1⟩; have HB1 := Lib.hid hb1; clear hb1) | (go_at_call 62; refine (small_any _ _ hs).mono ?_; rintro e w2 ⟨rfl, hb2⟩; have HB2 := Lib.hid hb2; clear hb2))
            go_ret
            exact ⟨ret_int HP.out.symm, belowCall HB1.out HB2.out⟩
        · have han' : (name.toList == ([97, 110, 110, 111, 116, 97, 116, 105, 111, 110, 45, 120, 109, 108] : List UInt8)) = false := by rw [beq_eq_false_iff_ne]; exact fun e => han ((eq_mk_iff _ _).2 e)
          have HP : Hid (pointF 2 name attrs = 0) := by show pointF 2 name attrs = 0; rw [pointF, if_neg (by decide), if_pos rfl, HI.out, if_neg (by decide), if_neg han]
          clear han hl hs
          go_enter Try.func15, Try.ntmps15
          go_wp2_with fail
          go_ret
          exact ⟨ret_int HP.out.symm, Below.refl _ _⟩
    · have h1' : (space == 1) = false := by simpa using h1
      have h2' : (space == 2) = false := by simpa using h2
      go_enter Try.func15, Try.ntmps15
      go_wp2_with fail
      go_ret
      exact ⟨ret_int (by rw [pointF, if_neg h1, if_neg h2]), Below.refl _ _⟩
end Go.Proofs.Ytflphgmblipglaa
