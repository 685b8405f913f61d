/-
  Contracts: foreign.Breaks and colanderref16.Breaks: what each computes; the world behind has new blocks alone.
-/
import Derived.Test.YtflphgmblipglaaForC
namespace Go.Proofs.Ytflphgmblipglaa
open Go.RowKit Mem

def brkNames : List ByteArray := [⟨#[98]⟩, ⟨#[98, 105, 103]⟩, ⟨#[98, 108, 111, 99, 107, 113, 117, 111, 116, 101]⟩, ⟨#[98, 111, 100, 121]⟩, ⟨#[98, 114]⟩, ⟨#[99, 101, 110, 116, 101, 114]⟩, ⟨#[99, 111, 100, 101]⟩, ⟨#[100, 100]⟩, ⟨#[100, 105, 118]⟩, ⟨#[100, 108]⟩, ⟨#[100, 116]⟩, ⟨#[101, 109]⟩, ⟨#[101, 109, 98, 101, 100]⟩, ⟨#[104, 49]⟩, ⟨#[104, 50]⟩, ⟨#[104, 51]⟩, ⟨#[104, 52]⟩, ⟨#[104, 53]⟩, ⟨#[104, 54]⟩, ⟨#[104, 101, 97, 100]⟩, ⟨#[104, 114]⟩, ⟨#[105]⟩, ⟨#[105, 109, 103]⟩, ⟨#[108, 105]⟩, ⟨#[108, 105, 115, 116, 105, 110, 103]⟩, ⟨#[109, 101, 110, 117]⟩, ⟨#[109, 101, 116, 97]⟩, ⟨#[110, 111, 98, 114]⟩, ⟨#[111, 108]⟩, ⟨#[112]⟩, ⟨#[112, 114, 101]⟩, ⟨#[114, 117, 98, 121]⟩, ⟨#[115]⟩, ⟨#[115, 109, 97, 108, 108]⟩, ⟨#[115, 112, 97, 110]⟩, ⟨#[115, 116, 114, 111, 110, 103]⟩, ⟨#[115, 116, 114, 105, 107, 101]⟩, ⟨#[115, 117, 98]⟩, ⟨#[115, 117, 112]⟩, ⟨#[116, 97, 98, 108, 101]⟩, ⟨#[116, 116]⟩, ⟨#[117]⟩, ⟨#[117, 108]⟩, ⟨#[118, 97, 114]⟩]
def endNames : List ByteArray := [⟨#[98, 114]⟩, ⟨#[112]⟩]
def sizeNames : List ByteArray := [⟨#[99, 111, 108, 111, 114]⟩, ⟨#[102, 97, 99, 101]⟩, ⟨#[115, 105, 122, 101]⟩]
def anySize (l : List Pair) : Bool := l.any fun p => isIn sizeNames p.1

def breaksF (kind : Int) (name : ByteArray) (attrs : List Pair) : Bool :=
  if kind = 3 then isIn endNames name else if kind = 2 then (if isIn brkNames name then true else if name = (⟨#[102, 111, 110, 116]⟩ : ByteArray) then anySize attrs else false) else false

/-- a mark by value -/
abbrev markA (kind : Int) (name : ByteArray) (a : Option Addr) (n c : Nat) (self : Bool) (text : ByteArray) : Value :=
  .agg #[.int .i64 kind, .string name, .slice a n c, .bool self, .string text]

theorem anySize_step (l : List Pair) (k : Nat) (h : k < l.length) (hne : isIn sizeNames l[k].1 = false) : anySize (l.drop k) = anySize (l.drop (k + 1)) := by
  rw [anySize, List.drop_eq_getElem_cons h, List.any_cons, hne, Bool.false_or]; rfl
theorem anySize_hit (l : List Pair) (k : Nat) (h : k < l.length) (he : isIn sizeNames l[k].1 = true) : anySize (l.drop k) = true := by
  rw [anySize, List.drop_eq_getElem_cons h, List.any_cons, he, Bool.true_or]

section
variable (name : ByteArray) (attrs : List Pair) (a : Option Addr) (c : Nat) (self : Bool) (text : ByteArray) (w : World)

theorem breaks_end :
    Calls Try.prog 19 #[markA 3 name a attrs.length c self text] w fun e w' => e = .returned (.bool (breaksF 3 name attrs)) ∧ Below w.heap.size w w' := by
  have HP : Hid (breaksF 3 name attrs = isIn endNames name) := by show _ = _; simp [breaksF]
  cases hin : isIn endNames name
  · have HI := Lib.hid hin
    rw [isIn_mk] at hin
    have no0 : (name.toList == [98, 114]) = false := isIn_no hin [98, 114] (by decide); have no1 : (name.toList == [112]) = false := isIn_no hin [112] (by decide)
    clear hin
    go_enter Try.func19, Try.ntmps19
    go_wp2_with fail
    go_ret
    exact ⟨ret_bool (by rw [HP.out, HI.out]), (Below.refl _ _).alloc (Nat.le_refl _) _⟩
  · have HI := Lib.hid hin
    have h := isIn_mem hin
    clear hin
    simp only [endNames, List.mem_cons, List.not_mem_nil, or_false, eq_mk_iff] at h
    rcases h with h | h
    all_goals
      go_enter Try.func19, Try.ntmps19
      go_wp2_with fail
      go_ret
      exact ⟨ret_bool (by rw [HP.out, HI.out]), (Below.refl _ _).alloc (Nat.le_refl _) _⟩

theorem breaks_none (kind : Int) (h3 : (kind == 3) = false) (h2 : (kind == 2) = false) :
    Calls Try.prog 19 #[markA kind name a attrs.length c self text] w fun e w' => e = .returned (.bool (breaksF kind name attrs)) ∧ Below w.heap.size w w' := by
  have HP : Hid (breaksF kind name attrs = false) := by show _ = _; rw [breaksF, if_neg (by simpa using h3), if_neg (by simpa using h2)]
  have h2' : (kind != 2) = true := by simpa using h2
  go_enter Try.func19, Try.ntmps19
  go_wp2_with fail
  go_ret
  exact ⟨ret_bool HP.out.symm, (Below.refl _ _).alloc (Nat.le_refl _) _⟩


set_option maxRecDepth 100000 in
set_option maxHeartbeats 4000000 in
theorem breaks_no (h2f : isIn brkNames name = false) (hf : (name.toList == ([102, 111, 110, 116] : List UInt8)) = false) :
    Calls Try.prog 19 #[markA 2 name a attrs.length c self text] w fun e w' => e = .returned (.bool (breaksF 2 name attrs)) ∧ Below w.heap.size w w' := by
  have HP : Hid (breaksF 2 name attrs = false) := by
    show _ = _
    rw [breaksF, if_neg (by decide), if_pos rfl, h2f, if_neg (by decide), if_neg]
    intro e
    rw [eq_mk_iff] at e
    rw [e] at hf
    simp at hf
  rw [isIn_mk] at h2f
  have no0 : (name.toList == [98]) = false := isIn_no h2f [98] (by decide); have no1 : (name.toList == [98, 105, 103]) = false := isIn_no h2f [98, 105, 103] (by decide); have no2 : (name.toList == [98, 108, 111, 99, 107, 113, 117, 111, 116, 101]) = false := isIn_no h2f [98, 108, 111, 99, 107, 113, 117, 111, 116, 101] (by decide); have no3 : (name.toList == [98, 111, 100, 121]) = false := isIn_no h2f [98, 111, 100, 121] (by decide); have no4 : (name.toList == [98, 114]) = false := isIn_no h2f [98, 114] (by decide); have no5 : (name.toList == [99, 101, 110, 116, 101, 114]) = false := isIn_no h2f [99, 101, 110, 116, 101, 114] (by decide); have no6 : (name.toList == [99, 111, 100, 101]) = false := isIn_no h2f [99, 111, 100, 101] (by decide); have no7 : (name.toList == [100, 100]) = false := isIn_no h2f [100, 100] (by decide); have no8 : (name.toList == [100, 105, 118]) = false := isIn_no h2f [100, 105, 118] (by decide); have no9 : (name.toList == [100, 108]) = false := isIn_no h2f [100, 108] (by decide); have no10 : (name.toList == [100, 116]) = false := isIn_no h2f [100, 116] (by decide); have no11 : (name.toList == [101, 109]) = false := isIn_no h2f [101, 109] (by decide); have no12 : (name.toList == [101, 109, 98, 101, 100]) = false := isIn_no h2f [101, 109, 98, 101, 100] (by decide); have no13 : (name.toList == [104, 49]) = false := isIn_no h2f [104, 49] (by decide); have no14 : (name.toList == [104, 50]) = false := isIn_no h2f [104, 50] (by decide); have no15 : (name.toList == [104, 51]) = false := isIn_no h2f [104, 51] (by decide); have no16 : (name.toList == [104, 52]) = false := isIn_no h2f [104, 52] (by decide); have no17 : (name.toList == [104, 53]) = false := isIn_no h2f [104, 53] (by decide); have no18 : (name.toList == [104, 54]) = false := isIn_no h2f [104, 54] (by decide); have no19 : (name.toList == [104, 101, 97, 100]) = false := isIn_no h2f [104, 101, 97, 100] (by decide); have no20 : (name.toList == [104, 114]) = false := isIn_no h2f [104, 114] (by decide); have no21 : (name.toList == [105]) = false := isIn_no h2f [105] (by decide); have no22 : (name.toList == [105, 109, 103]) = false := isIn_no h2f [105, 109, 103] (by decide); have no23 : (name.toList == [108, 105]) = false := isIn_no h2f [108, 105] (by decide); have no24 : (name.toList == [108, 105, 115, 116, 105, 110, 103]) = false := isIn_no h2f [108, 105, 115, 116, 105, 110, 103] (by decide); have no25 : (name.toList == [109, 101, 110, 117]) = false := isIn_no h2f [109, 101, 110, 117] (by decide); have no26 : (name.toList == [109, 101, 116, 97]) = false := isIn_no h2f [109, 101, 116, 97] (by decide); have no27 : (name.toList == [110, 111, 98, 114]) = false := isIn_no h2f [110, 111, 98, 114] (by decide); have no28 : (name.toList == [111, 108]) = false := isIn_no h2f [111, 108] (by decide); have no29 : (name.toList == [112]) = false := isIn_no h2f [112] (by decide); have no30 : (name.toList == [112, 114, 101]) = false := isIn_no h2f [112, 114, 101] (by decide); have no31 : (name.toList == [114, 117, 98, 121]) = false := isIn_no h2f [114, 117, 98, 121] (by decide); have no32 : (name.toList == [115]) = false := isIn_no h2f [115] (by decide); have no33 : (name.toList == [115, 109, 97, 108, 108]) = false := isIn_no h2f [115, 109, 97, 108, 108] (by decide); have no34 : (name.toList == [115, 112, 97, 110]) = false := isIn_no h2f [115, 112, 97, 110] (by decide); have no35 : (name.toList == [115, 116, 114, 111, 110, 103]) = false := isIn_no h2f [115, 116, 114, 111, 110, 103] (by decide); have no36 : (name.toList == [115, 116, 114, 105, 107, 101]) = false := isIn_no h2f [115, 116, 114, 105, 107, 101] (by decide); have no37 : (name.toList == [115, 117, 98]) = false := isIn_no h2f [115, 117, 98] (by decide); have no38 : (name.toList == [115, 117, 112]) = false := isIn_no h2f [115, 117, 112] (by decide); have no39 : (name.toList == [116, 97, 98, 108, 101]) = false := isIn_no h2f [116, 97, 98, 108, 101] (by decide); have no40 : (name.toList == [116, 116]) = false := isIn_no h2f [116, 116] (by decide); have no41 : (name.toList == [117]) = false := isIn_no h2f [117] (by decide); have no42 : (name.toList == [117, 108]) = false := isIn_no h2f [117, 108] (by decide); have no43 : (name.toList == [118, 97, 114]) = false := isIn_no h2f [118, 97, 114] (by decide)
  clear h2f
  go_enter Try.func19, Try.ntmps19
  go_wp2_with fail
  go_ret
  exact ⟨ret_bool HP.out.symm, (Below.refl _ _).alloc (Nat.le_refl _) _⟩

set_option maxRecDepth 100000 in
set_option maxHeartbeats 4000000 in
theorem breaks_font (h2f : isIn brkNames name = false) (hf : name.toList = ([102, 111, 110, 116] : List UInt8)) (hl : attrs.length ≤ maxLen) (ha : At w a (pairsV attrs)) :
    Calls Try.prog 19 #[markA 2 name a attrs.length c self text] w fun e w' => e = .returned (.bool (breaksF 2 name attrs)) ∧ Below w.heap.size w w' := by
  have HP : Hid (breaksF 2 name attrs = anySize attrs) := by
    show _ = _
    rw [breaksF, if_neg (by decide), if_pos rfl, h2f, if_neg (by decide), if_pos ((eq_mk_iff _ _).2 hf)]
  have HA := Lib.hid ha
  clear ha h2f
  unfold maxLen at hl
  go_enter Try.func19, Try.ntmps19
  go_wp2_with fail
  go_loopw [71] (fun i wr => ∃ k : Nat, k ≤ attrs.length ∧ i = .int .i64 k ∧ Below w.heap.size w wr ∧ anySize attrs = anySize (attrs.drop k)) (fun i _ => attrs.length - (intOf i).toNat)
  case atStart => exact ⟨0, Nat.zero_le _, rfl, (Below.refl _ _).alloc (Nat.le_refl _) _, rfl⟩
  case round =>
    obtain ⟨k, hk, rfl, hb, hv⟩ := hrel
    have HV := Lib.hid hv
    have HB := Lib.hid hb
    by_cases hlt : k < attrs.length
    · obtain ⟨b, o, rfl, hlb, h1, h2⟩ := pair_cells (HA.out.below hb) hlt
      clear hv hb
      cases hin : isIn sizeNames attrs[k].1
      · have HI := Lib.hid hin
        rw [isIn_mk] at hin
        have no0 : (attrs[k].1.toList == [99, 111, 108, 111, 114]) = false := isIn_no hin [99, 111, 108, 111, 114] (by decide); have no1 : (attrs[k].1.toList == [102, 97, 99, 101]) = false := isIn_no hin [102, 97, 99, 101] (by decide); have no2 : (attrs[k].1.toList == [115, 105, 122, 101]) = false := isIn_no hin [115, 105, 122, 101] (by decide)
        clear hin
        go_wp2_with fail
        go_roundw
        case rel => exact ⟨k + 1, by omega, by go_num, HB.out.alloc HB.out.size _, by rw [HV.out, anySize_step attrs k hlt HI.out]⟩
        case measure => simp [intOf]; omega
      · have HI := Lib.hid hin
        have h := isIn_mem hin
        clear hin
        simp only [sizeNames, List.mem_cons, List.not_mem_nil, or_false, eq_mk_iff] at h
        rcases h with h | h | h
        all_goals
          go_wp2_with fail
          go_ret
          exact ⟨ret_bool (by rw [HP.out, HV.out, anySize_hit attrs k hlt HI.out]), HB.out.alloc HB.out.size _⟩
    · clear hb hv
      go_wp2_with fail
      go_ret
      exact ⟨ret_bool (by rw [HP.out, HV.out, List.drop_of_length_le (by omega)]; rfl), HB.out⟩

set_option maxRecDepth 100000 in
set_option maxHeartbeats 4000000 in
theorem refBreaks_end :
    Calls Try.prog 20 #[markA 3 name a attrs.length c self text] w fun e w' => e = .returned (.bool (breaksF 3 name attrs)) ∧ Below w.heap.size w w' := by
  have HP : Hid (breaksF 3 name attrs = isIn endNames name) := by show _ = _; simp [breaksF]
  go_enter Try.func20, Try.ntmps20
  go_wp2_with (go_at_call 64; refine (in_any _ endNames _ _ _ (by decide) (at_alloc (by simp) rfl)).mono ?_; rintro e w1 ⟨rfl, rfl⟩)
  go_ret
  exact ⟨ret_bool HP.out.symm, ((Below.refl _ _).alloc (Nat.le_refl _) _).alloc (by simp) _⟩

set_option maxRecDepth 100000 in
set_option maxHeartbeats 4000000 in
theorem refBreaks_none (kind : Int) (h3 : (kind == 3) = false) (h2 : (kind == 2) = false) :
    Calls Try.prog 20 #[markA kind name a attrs.length c self text] w fun e w' => e = .returned (.bool (breaksF kind name attrs)) ∧ Below w.heap.size w w' := by
  have HP : Hid (breaksF kind name attrs = false) := by show _ = _; rw [breaksF, if_neg (by simpa using h3), if_neg (by simpa using h2)]
  have h2' : (kind != 2) = true := by simpa using h2
  go_enter Try.func20, Try.ntmps20
  go_wp2_with fail
  go_ret
  exact ⟨ret_bool HP.out.symm, (Below.refl _ _).alloc (Nat.le_refl _) _⟩

def markV (kind : Int) (name : ByteArray) (a : Option Addr) (n c : Nat) (self : Bool) (text : ByteArray) : List Value :=
  [.int .i64 kind, .string name, .slice a n c, .bool self, .string text]

set_option maxRecDepth 100000 in
set_option maxHeartbeats 4000000 in
theorem refBreaks_start (hl : attrs.length ≤ maxLen) (ha : At w a (pairsV attrs)) :
    Calls Try.prog 20 #[markA 2 name a attrs.length c self text] w fun e w' => e = .returned (.bool (breaksF 2 name attrs)) ∧ Below w.heap.size w w' := by
  have HP : Hid (breaksF 2 name attrs = (isIn brkNames name || ((name.toList == ([102, 111, 110, 116] : List UInt8)) && anySize attrs))) := by
    show _ = _
    rw [breaksF, if_neg (by decide), if_pos rfl]
    cases isIn brkNames name
    · by_cases hf : name.toList = ([102, 111, 110, 116] : List UInt8) <;> simp [eq_mk_iff, hf]
    · simp
  have HA := Lib.hid ha
  clear ha
  unfold maxLen at hl
  go_enter Try.func20, Try.ntmps20
  go_wp2_with fail
  go_loopw [3, 4] (fun z i wr => ∃ k : Nat, ∃ q : Bool, k ≤ attrs.length ∧ i = .int .i64 k ∧ z = .bool q ∧ Below w.heap.size w wr ∧ Row wr w.heap.size (markV 2 name a attrs.length c self text) ∧ anySize attrs = (q || anySize (attrs.drop k))) (fun _ i _ => attrs.length - (intOf i).toNat)
  case atStart => exact ⟨0, false, Nat.zero_le _, rfl, rfl, (Below.refl _ _).alloc (Nat.le_refl _) _, Row.alloc w _ _, by simp⟩
  case round =>
    obtain ⟨k, q, hk, rfl, rfl, hb, hr, hv⟩ := hrel
    have HV := Lib.hid hv
    have HB := Lib.hid hb
    have HR := Lib.hid hr
    have m1 : wr.cell? ⟨w.heap.size, 1, none⟩ = some (.string name) := hr.cell rfl
    have m2 : wr.cell? ⟨w.heap.size, 2, none⟩ = some (.slice a attrs.length c) := hr.cell rfl
    have hz := hr.lt
    clear hv hr
    by_cases hlt : k < attrs.length
    · obtain ⟨b, o, rfl, hlb, h1, h2⟩ := pair_cells (HA.out.below hb) hlt
      clear hb
      cases q
      · go_wp2_with (go_at_call 64; refine (in_any _ sizeNames _ _ _ (by decide) (at_alloc (by simp) rfl)).mono ?_; rintro e w3 ⟨rfl, rfl⟩)
        go_roundw
        case rel =>
          refine ⟨k + 1, isIn sizeNames attrs[k].1, by omega, by go_num, rfl, HB.out.alloc HB.out.size _, HR.out.kept (Below.heap_alloc _ _ _ hz), ?_⟩
          rw [HV.out, Bool.false_or]
          cases hin : isIn sizeNames attrs[k].1
          · rw [anySize_step attrs k hlt hin, Bool.false_or]
          · rw [anySize_hit attrs k hlt hin, Bool.true_or]
        case measure => simp [intOf]; omega
      · go_wp2_with fail
        go_roundw
        case rel => exact ⟨k + 1, true, by omega, by go_num, rfl, HB.out, HR.out, by rw [HV.out, Bool.true_or, Bool.true_or]⟩
        case measure => simp [intOf]; omega
    · clear hb
      have HQ : Hid (anySize attrs = q) := by show _ = _; rw [HV.out, List.drop_of_length_le (by omega)]; simp [anySize]
      cases hin : isIn brkNames name
      · cases hf : (name.toList == ([102, 111, 110, 116] : List UInt8))
        all_goals
          go_wp2_with (go_at_call 64; refine (in_any _ brkNames _ _ _ (by decide) (at_alloc (by simp) rfl)).mono ?_; rintro e w3 ⟨rfl, rfl⟩)
          go_ret
          exact ⟨ret_bool (by rw [HP.out, HQ.out, hin, hf]; rfl), HB.out.alloc HB.out.size _⟩
      · go_wp2_with (go_at_call 64; refine (in_any _ brkNames _ _ _ (by decide) (at_alloc (by simp) rfl)).mono ?_; rintro e w3 ⟨rfl, rfl⟩)
        go_ret
        exact ⟨ret_bool (by rw [HP.out, hin]; rfl), HB.out.alloc HB.out.size _⟩
end
end Go.Proofs.Ytflphgmblipglaa
