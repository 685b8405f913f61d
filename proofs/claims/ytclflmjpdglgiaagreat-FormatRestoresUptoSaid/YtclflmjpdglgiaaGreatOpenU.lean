/-
  Contracts: colanderref14.Void, Special, Bounds: what each computes; the world stays.
-/
import Derived.Test.YtclflmjpdglgiaaGreatOpenT
import Derived.Test.YtclflmjpdglgiaaGreatRfQQ
namespace Go.Proofs.YtclflmjpdglgiaaGreat
open Go.RowKit Mem

def splitW : List UInt8 → List UInt8 → List (List UInt8)
  | cur, [] => [cur]
  | cur, c :: r => if c = 32 then cur :: splitW [] r else splitW (cur ++ [c]) r
theorem inR_split (w : List UInt8) : ∀ (L cur : List UInt8), inR w cur L = (splitW cur L).any fun p => hitW p w
  | [], cur => by simp [inR, splitW]
  | c :: r, cur => by
    rw [inR, splitW]
    split
    · rw [List.any_cons, inR_split w r []]
    · exact inR_split w r _
def saidW (names : List ByteArray) (L : List UInt8) : Bool := (splitW [] L).all (fun p => !p.isEmpty) && (splitW [] L) == names.map (·.toList)
theorem in_words {names : List ByteArray} {L : List UInt8} (h : saidW names L = true) (name : ByteArray) : inR name.toList [] L = isW names name := by
  obtain ⟨h1, h2⟩ := Bool.and_eq_true_iff.1 h
  have h2 : splitW [] L = names.map (·.toList) := by simpa using h2
  rw [inR_split, isW]
  have h3 : ∀ p ∈ splitW [] L, hitW p name.toList = (p == name.toList) := fun p hp => by
    have := (List.all_eq_true.1 h1) p hp
    simp only [hitW, this, Bool.true_and]
  rw [h2, List.any_map]
  rw [h2] at h3
  rw [Bool.eq_iff_iff, List.any_eq_true, List.any_eq_true]
  constructor
  · rintro ⟨x, hx, hh⟩
    refine ⟨x, hx, ?_⟩
    simp only [Function.comp] at hh
    rw [h3 _ (List.mem_map_of_mem hx)] at hh
    rw [beq_iff_eq] at hh ⊢
    exact hh.symm
  · rintro ⟨x, hx, hh⟩
    refine ⟨x, hx, ?_⟩
    simp only [Function.comp]
    rw [h3 _ (List.mem_map_of_mem hx)]
    rw [beq_iff_eq] at hh ⊢
    exact hh.symm
theorem in_w (names : List ByteArray) (name list : ByteArray) (w : World) (h1 : decide (list.size ≤ 100000) = true) (h2 : saidW names list.toList = true) :
    Calls Tryz.prog 102 #[.string name, .string list] w fun e w' => e = .returned (.bool (isW names name)) ∧ w = w' := by
  rw [← in_words h2 name]
  exact in_any name list w (of_decide_eq_true h1)

set_option maxRecDepth 100000 in
set_option maxHeartbeats 4000000 in
theorem rSpecial_any (space : Int) (name : ByteArray) (w : World) : Calls Tryz.prog 66 #[.int .i64 space, .string name] w fun e w' => e = .returned (.bool (specialF space name)) ∧ w = w' := by
  by_cases h2 : space = 2
  · subst h2
    rw [show specialF 2 name = isW mathNames name from rfl]
    go_enter Tryz.func66, Tryz.ntmps66
    go_wp2_with (first | (go_at_call 102; refine (in_w mathNames name _ _ (by kernel_rfl) (by kernel_rfl)).mono ?_; rintro e w1 ⟨rfl, rfl⟩))
    go_ret
    exact ⟨rfl, rfl⟩
  by_cases h1 : space = 1
  · subst h1
    rw [show specialF 1 name = isW svgNames14 name from rfl]
    go_enter Tryz.func66, Tryz.ntmps66
    go_wp2_with (first | (go_at_call 102; refine (in_w svgNames14 name _ _ (by kernel_rfl) (by kernel_rfl)).mono ?_; rintro e w1 ⟨rfl, rfl⟩))
    go_ret
    exact ⟨rfl, rfl⟩
  by_cases h0 : space = 0
  · subst h0
    rw [show specialF 0 name = (isW voidNames name || isW specNames name) from rfl]
    cases hv : isW voidNames name
    all_goals
      go_enter Tryz.func66, Tryz.ntmps66
      go_wp2_with (first | (go_at_call 102; refine (in_w voidNames name _ _ (by kernel_rfl) (by decide +kernel)).mono ?_; rintro e w1 ⟨rfl, rfl⟩) | (go_at_call 102; refine (in_w specNames name _ _ (by kernel_rfl) (by decide +kernel)).mono ?_; rintro e w1 ⟨rfl, rfl⟩))
      go_ret
      exact ⟨ret_bool (by simp), rfl⟩
  · have hs : specialF space name = false := by rw [specialF, if_neg h2, if_neg h1, if_neg h0]
    have h2' : (space == 2) = false := by simpa using h2
    have h1' : (space == 1) = false := by simpa using h1
    have h0' : (space == 0) = false := by simpa using h0
    rw [hs]
    clear h2 h1 h0 hs
    go_enter Tryz.func66, Tryz.ntmps66
    go_wp2_with fail
    go_ret
    exact ⟨rfl, rfl⟩

set_option maxRecDepth 100000 in
set_option maxHeartbeats 4000000 in
theorem rBounds_any (scope space : Int) (name : ByteArray) (w : World) : Calls Tryz.prog 101 #[.int .i64 scope, .int .i64 space, .string name] w fun e w' => e = .returned (.bool (boundsF scope space name)) ∧ w = w' := by
  by_cases s0 : scope = 0
  · subst s0
    by_cases h0 : space = 0
    · subst h0
      rw [show boundsF 0 0 name = isW bounds0 name from rfl]
      go_enter Tryz.func101, Tryz.ntmps101
      go_wp2_with (first | (go_at_call 102; refine (in_w bounds0 name _ _ (by kernel_rfl) (by kernel_rfl)).mono ?_; rintro e w1 ⟨rfl, rfl⟩))
      go_ret
      exact ⟨rfl, rfl⟩
    · have h0' : (space == 0) = false := by simpa using h0
      have HF : Hid (boundsF 0 space name = specialF space name) := Lib.hid (by simp [boundsF, h0])
      clear h0
      go_enter Tryz.func101, Tryz.ntmps101
      go_wp2_with (first | (go_at_call 66; go_must (refine (rSpecial_any space name _).mono ?_; rintro e w1 ⟨rfl, rfl⟩)))
      go_ret
      exact ⟨ret_bool HF.out.symm, rfl⟩
  by_cases s1 : scope = 1
  · subst s1
    by_cases h0 : space = 0
    · subst h0
      rw [show boundsF 1 0 name = isW bounds1 name from rfl]
      go_enter Tryz.func101, Tryz.ntmps101
      go_wp2_with (first | (go_at_call 102; refine (in_w bounds1 name _ _ (by kernel_rfl) (by kernel_rfl)).mono ?_; rintro e w1 ⟨rfl, rfl⟩))
      go_ret
      exact ⟨rfl, rfl⟩
    · have h0' : (space == 0) = false := by simpa using h0
      have HF : Hid (boundsF 1 space name = specialF space name) := Lib.hid (by simp [boundsF, h0])
      clear h0
      go_enter Tryz.func101, Tryz.ntmps101
      go_wp2_with (first | (go_at_call 66; go_must (refine (rSpecial_any space name _).mono ?_; rintro e w1 ⟨rfl, rfl⟩)))
      go_ret
      exact ⟨ret_bool HF.out.symm, rfl⟩
  by_cases s2 : scope = 2
  · subst s2
    by_cases h0 : space = 0
    · subst h0
      rw [show boundsF 2 0 name = isW bounds2 name from rfl]
      go_enter Tryz.func101, Tryz.ntmps101
      go_wp2_with (first | (go_at_call 102; refine (in_w bounds2 name _ _ (by kernel_rfl) (by kernel_rfl)).mono ?_; rintro e w1 ⟨rfl, rfl⟩))
      go_ret
      exact ⟨rfl, rfl⟩
    · have h0' : (space == 0) = false := by simpa using h0
      have HF : Hid (boundsF 2 space name = specialF space name) := Lib.hid (by simp [boundsF, h0])
      clear h0
      go_enter Tryz.func101, Tryz.ntmps101
      go_wp2_with (first | (go_at_call 66; go_must (refine (rSpecial_any space name _).mono ?_; rintro e w1 ⟨rfl, rfl⟩)))
      go_ret
      exact ⟨ret_bool HF.out.symm, rfl⟩
  by_cases s3 : scope = 3
  · subst s3
    by_cases h0 : space = 0
    · subst h0
      rw [show boundsF 3 0 name = isW tabNames name from rfl]
      go_enter Tryz.func101, Tryz.ntmps101
      go_wp2_with (first | (go_at_call 102; refine (in_w tabNames name _ _ (by kernel_rfl) (by kernel_rfl)).mono ?_; rintro e w1 ⟨rfl, rfl⟩))
      go_ret
      exact ⟨rfl, rfl⟩
    · have h0' : (space == 0) = false := by simpa using h0
      have hs : boundsF 3 space name = false := by simp [boundsF, h0]
      rw [hs]
      clear h0 hs
      go_enter Tryz.func101, Tryz.ntmps101
      go_wp2_with (first | fail)
      go_ret
      exact ⟨rfl, rfl⟩
  · have hs : boundsF scope space name = false := by rw [boundsF, if_neg s0, if_neg s1, if_neg s2, if_neg s3]
    rw [hs]
    have e0 : (scope == 0) = false := by simpa using s0
    have e1 : (scope == 1) = false := by simpa using s1
    have e2 : (scope == 2) = false := by simpa using s2
    have e3 : (scope == 3) = false := by simpa using s3
    clear s0 s1 s2 s3 hs
    go_enter Tryz.func101, Tryz.ntmps101
    go_wp2_with fail
    go_ret
    exact ⟨rfl, rfl⟩
end Go.Proofs.YtclflmjpdglgiaaGreat
