/-
  Contracts: open.Special, open.Bounds: what each computes; the world stays.
-/
import Derived.Test.YtidbihdnginmcaaOpenR
namespace Go.Proofs.Ytidbihdnginmcaa
open Go.RowKit Mem

def specialF (space : Int) (name : ByteArray) : Bool :=
  if space = 2 then isW mathNames name else if space = 1 then isW svgNames14 name else if space = 0 then isW voidNames name || isW specNames name else false
def tabNames : List ByteArray := [⟨#[104, 116, 109, 108]⟩, ⟨#[116, 97, 98, 108, 101]⟩]
def bounds0 : List ByteArray := [⟨#[97, 112, 112, 108, 101, 116]⟩, ⟨#[99, 97, 112, 116, 105, 111, 110]⟩, ⟨#[104, 116, 109, 108]⟩, ⟨#[116, 97, 98, 108, 101]⟩, ⟨#[116, 100]⟩, ⟨#[116, 104]⟩, ⟨#[109, 97, 114, 113, 117, 101, 101]⟩, ⟨#[111, 98, 106, 101, 99, 116]⟩]
def bounds1 : List ByteArray := [⟨#[97, 112, 112, 108, 101, 116]⟩, ⟨#[99, 97, 112, 116, 105, 111, 110]⟩, ⟨#[104, 116, 109, 108]⟩, ⟨#[116, 97, 98, 108, 101]⟩, ⟨#[116, 100]⟩, ⟨#[116, 104]⟩, ⟨#[109, 97, 114, 113, 117, 101, 101]⟩, ⟨#[111, 98, 106, 101, 99, 116]⟩, ⟨#[111, 108]⟩, ⟨#[117, 108]⟩]
def bounds2 : List ByteArray := [⟨#[97, 112, 112, 108, 101, 116]⟩, ⟨#[99, 97, 112, 116, 105, 111, 110]⟩, ⟨#[104, 116, 109, 108]⟩, ⟨#[116, 97, 98, 108, 101]⟩, ⟨#[116, 100]⟩, ⟨#[116, 104]⟩, ⟨#[109, 97, 114, 113, 117, 101, 101]⟩, ⟨#[111, 98, 106, 101, 99, 116]⟩, ⟨#[98, 117, 116, 116, 111, 110]⟩]
def boundsF (scope space : Int) (name : ByteArray) : Bool :=
  if scope = 0 then (if space = 0 then isW bounds0 name else specialF space name) else
  if scope = 1 then (if space = 0 then isW bounds1 name else specialF space name) else
  if scope = 2 then (if space = 0 then isW bounds2 name else specialF space name) else
  if scope = 3 then (if space = 0 then isW tabNames name else false) else false

set_option maxRecDepth 100000 in
set_option maxHeartbeats 4000000 in
theorem Special_any (space : Int) (name : ByteArray) (w : World) : Calls Try.prog 110 #[.int .i64 space, .string name] w fun e w' => e = .returned (.bool (specialF space name)) ∧ w = w' := by
  by_cases h2 : space = 2
  · subst h2
    rw [show specialF 2 name = isW mathNames name from rfl]
    go_enter Try.func110, Try.ntmps110
    go_wp2_with fail
    all_goals go_ret
    all_goals exact ⟨ret_bool (by first | exact clash (x := name.toList) ‹_› ‹_› | exact (isW_lit ‹_› (by decide)).symm | simp [isW, mathNames, *]), rfl⟩
  by_cases h1 : space = 1
  · subst h1
    rw [show specialF 1 name = isW svgNames14 name from rfl]
    cases e1 : (name.toList == ([102, 111, 114, 101, 105, 103, 110, 79, 98, 106, 101, 99, 116] : List UInt8)) <;> cases e2 : (name.toList == ([100, 101, 115, 99] : List UInt8))
    all_goals
      go_enter Try.func110, Try.ntmps110
      go_wp2_with fail
      all_goals go_ret
      all_goals exact ⟨ret_bool (by simp [isW, svgNames14, *]), rfl⟩
  by_cases h0 : space = 0
  · subst h0
    have HV := Lib.hid (Void_any name w)
    have HS := Lib.hid (special_any name w)
    have hs : specialF 0 name = (isW voidNames name || isW specNames name) := rfl
    rw [hs]
    cases hv : isW voidNames name
    all_goals
      rw [hv] at HV
      go_enter Try.func110, Try.ntmps110
      go_wp2_with (first | (go_at_call 118; go_must (refine HV.out.mono ?_; rintro e w1 ⟨rfl, rfl⟩)) | (go_at_call 119; go_must (refine HS.out.mono ?_; rintro e w1 ⟨rfl, rfl⟩)))
      go_ret
      exact ⟨ret_bool (by simp), rfl⟩
  · have hs : specialF space name = false := by rw [specialF, if_neg h2, if_neg h1, if_neg h0]
    have h2' : (space == 2) = false := by simpa using h2
    have h1' : (space == 1) = false := by simpa using h1
    have h0' : (space == 0) = false := by simpa using h0
    rw [hs]
    clear h2 h1 h0 hs
    go_enter Try.func110, Try.ntmps110
    go_wp2_with fail
    all_goals go_ret
    exact ⟨rfl, rfl⟩

set_option maxRecDepth 100000 in
set_option maxHeartbeats 8000000 in
theorem Bounds_any (scope space : Int) (name : ByteArray) (w : World) : Calls Try.prog 97 #[.int .i64 scope, .int .i64 space, .string name] w fun e w' => e = .returned (.bool (boundsF scope space name)) ∧ w = w' := by
  by_cases s0 : scope = 0
  · subst s0
    by_cases h0 : space = 0
    · subst h0
      go_enter Try.func97, Try.ntmps97
      go_wp2_with fail
      all_goals go_ret
      all_goals exact ⟨ret_bool (by rw [show boundsF 0 0 name = isW bounds0 name from rfl]; first | exact clash (x := name.toList) ‹_› ‹_› | exact (isW_lit ‹_› (by decide)).symm | (simp [isW, bounds0, *]; done) | simp_all), rfl⟩
    · have h0' : (space == 0) = false := by simpa using h0
      have h0'' : (space != 0) = true := by simpa using h0
      have HF : Hid (boundsF 0 space name = specialF space name) := Lib.hid (by simp [boundsF, h0])
      have HS := Lib.hid (Special_any space name w)
      clear h0
      go_enter Try.func97, Try.ntmps97
      go_wp2_with (first | (go_at_call 110; go_must (refine HS.out.mono ?_; rintro e w1 ⟨rfl, rfl⟩)))
      go_ret
      exact ⟨ret_bool HF.out.symm, rfl⟩
  by_cases s1 : scope = 1
  · subst s1
    by_cases h0 : space = 0
    · subst h0
      go_enter Try.func97, Try.ntmps97
      go_wp2_with fail
      all_goals go_ret
      all_goals exact ⟨ret_bool (by rw [show boundsF 1 0 name = isW bounds1 name from rfl]; first | exact clash (x := name.toList) ‹_› ‹_› | exact (isW_lit ‹_› (by decide)).symm | (simp [isW, bounds1, *]; done) | simp_all), rfl⟩
    · have h0' : (space == 0) = false := by simpa using h0
      have h0'' : (space != 0) = true := by simpa using h0
      have HF : Hid (boundsF 1 space name = specialF space name) := Lib.hid (by simp [boundsF, h0])
      have HS := Lib.hid (Special_any space name w)
      clear h0
      go_enter Try.func97, Try.ntmps97
      go_wp2_with (first | (go_at_call 110; go_must (refine HS.out.mono ?_; rintro e w1 ⟨rfl, rfl⟩)))
      go_ret
      exact ⟨ret_bool HF.out.symm, rfl⟩
  by_cases s2 : scope = 2
  · subst s2
    by_cases h0 : space = 0
    · subst h0
      go_enter Try.func97, Try.ntmps97
      go_wp2_with fail
      all_goals go_ret
      all_goals exact ⟨ret_bool (by rw [show boundsF 2 0 name = isW bounds2 name from rfl]; first | exact clash (x := name.toList) ‹_› ‹_› | exact (isW_lit ‹_› (by decide)).symm | (simp [isW, bounds2, *]; done) | (simp_all; done) | simp_all [isW, bounds2]), rfl⟩
    · have h0' : (space == 0) = false := by simpa using h0
      have h0'' : (space != 0) = true := by simpa using h0
      have HF : Hid (boundsF 2 space name = specialF space name) := Lib.hid (by simp [boundsF, h0])
      have HS := Lib.hid (Special_any space name w)
      clear h0
      go_enter Try.func97, Try.ntmps97
      go_wp2_with (first | (go_at_call 110; go_must (refine HS.out.mono ?_; rintro e w1 ⟨rfl, rfl⟩)))
      go_ret
      exact ⟨ret_bool HF.out.symm, rfl⟩
  by_cases s3 : scope = 3
  · subst s3
    by_cases h0 : space = 0
    · subst h0
      rw [show boundsF 3 0 name = isW tabNames name from rfl]
      cases e1 : (name.toList == ([104, 116, 109, 108] : List UInt8))
      all_goals
        go_enter Try.func97, Try.ntmps97
        go_wp2_with fail
        go_ret
        exact ⟨ret_bool (by simp [isW, tabNames, e1]), rfl⟩
    · have h0' : (space == 0) = false := by simpa using h0
      have hs : boundsF 3 space name = false := by simp [boundsF, h0]
      rw [hs]
      clear h0 hs
      go_enter Try.func97, Try.ntmps97
      go_wp2_with fail
      go_ret
      exact ⟨rfl, rfl⟩
  · have hs : boundsF scope space name = false := by rw [boundsF, if_neg s0, if_neg s1, if_neg s2, if_neg s3]
    rw [hs]
    by_cases hlo : scope < 0
    · go_enter Try.func97, Try.ntmps97
      go_wp2_with fail
      go_ret
      exact ⟨rfl, rfl⟩
    · have hhi : 3 < scope := by omega
      have h1' : (scope < 0) = False := by simpa using hlo
      clear s0 s1 s2 s3
      go_enter Try.func97, Try.ntmps97
      go_wp2_with fail
      go_ret
      exact ⟨rfl, rfl⟩
end Go.Proofs.Ytidbihdnginmcaa
