/-
  Contracts: the document's utf8: Encode, Decode, Fault.
-/
import Derived.Test.YtcgkenmgglediaaDoorRefsAF
namespace Go.Proofs.YtcgkenmgglediaaDoor
open Go.RowKit Mem

/-- the character that is written for a number -/
def subC (x : Int) : Nat := if charB x then x.toNat else 65533
theorem encR_sub (x : Int) : encR x = encF (subC x) := by unfold encR subC; split <;> rfl
theorem subC_char (x : Int) : charB ((subC x : Nat) : Int) = true := by
  unfold subC
  split
  · rename_i h
    rw [Int.toNat_of_nonneg ((charB_iff x).1 h).1]
    exact h
  · decide
theorem flat_len (f : Int → Str) (h : ∀ x, (f x).length ≤ 4) : ∀ r : List Int, (r.flatMap f).length ≤ 4 * r.length
  | [] => by simp
  | x :: r => by
    rw [List.flatMap_cons, List.length_append, List.length_cons]
    have h1 := h x
    have h2 := flat_len f h r
    omega
theorem encR_len4 (x : Int) : (encR x).length ≤ 4 := by rw [encR_sub]; exact encF_len4 _

set_option maxRecDepth 100000 in
set_option maxHeartbeats 2000000 in
theorem Encode08_any (r : List Int) (a : Option Addr) (cp : Nat) (w : World) (hl : r.length ≤ 1099511627776) (hr : ∀ x ∈ r, -2147483648 ≤ x ∧ x ≤ 2147483647) (ha : At w a (runesV r)) :
    Calls Tryd.prog 47 #[.slice a r.length cp] w fun e w' => e = .returned (.string (strB (r.flatMap encR))) ∧ Below w.heap.size w w' := by
  obtain ⟨i0, hi, hz0, hz1, hz2⟩ := info_parts info_u8
  have HA := Lib.hid ha
  have HR := Lib.hid hr
  clear ha hr
  go_enter Tryd.func47, Tryd.ntmps47
  go_wp2_with fail
  go_loopw [3, 4] (fun v q wr => ∃ (k n : Nat), q = .int .i64 k ∧ k ≤ r.length ∧ wr.ownsRow w.heap.size 5 1 v n (bytesV ((r.take k).flatMap encR)) ∧ n ≤ 4 * k ∧ Below w.heap.size w wr) (fun _ q _ => r.length - (intOf q).toNat)
  case atStart => exact ⟨0, 0, rfl, by omega, World.ownsRow_nil _ _ _ _, by omega, Below.refl _ _⟩
  case round =>
    obtain ⟨k, n, rfl, hk, ho, hn, hb⟩ := hrel
    have HO := Lib.hid ho
    have HB := Lib.hid hb
    have HZ := Lib.hid hb.size
    by_cases hkr : k < r.length
    · have hat := HA.out.below hb
      obtain ⟨bb, oo, rfl⟩ := hat.some_of (by intro h; have := congrArg List.length h; rw [runesV_len, List.length_nil] at this; omega)
      have hcl := hat.get (runesV_get r k hkr)
      have hx := HR.out r[k] (List.getElem_mem hkr)
      have htk : (r.take (k + 1)).flatMap encR = (r.take k).flatMap encR ++ encF (subC r[k]) := by
        rw [List.take_succ_eq_append_getElem hkr, List.flatMap_append, List.flatMap_cons, List.flatMap_nil, List.append_nil, encR_sub]
      have hsc := subC_char r[k]
      have hsc2 : subC r[k] ≤ 1114111 := by have := ((charB_iff _).1 hsc).2.1; omega
      have hcc := fun u => Char08_any r[k] u (by omega) (by omega)
      have hsub : charB r[k] = true → r[k] = ((subC r[k] : Nat) : Int) := fun h => by
        unfold subC
        rw [if_pos h, Int.toNat_of_nonneg ((charB_iff _).1 h).1]
      have hsub2 : charB r[k] = false → subC r[k] = 65533 := fun h => by unfold subC; rw [if_neg (by rw [h]; simp)]
      have HBY := Lib.hid (fun u => Bytes_at (subC r[k]) hsc2 u)
      have HTK := Lib.hid htk
      have hkk : (k : Int) < (r.length : Int) := by omega
      have hwr : IntKind.i64.wrap r[k] = r[k] := by rw [IntKind.wrap_i64]; omega
      generalize hxe : r[k] = x at *
      generalize hye : subC x = y at *
      cases hcb : charB x
      · rw [hcb] at hcc
        obtain rfl : y = 65533 := hsub2 hcb
        have HC := Lib.hid hcc
        have b1 : n + 4 ≤ maxLen := by unfold maxLen; omega
        clear ho hb hat htk hsc hcc hsub hsub2 hxe hye hcb
        go_wp2_with (first
          | (go_at_call 25; go_must (refine (HC.out _).mono ?_; rintro e w2 ⟨rfl, rfl⟩))
          | (go_at_call 26; go_must (refine (HBY.out _).mono ?_; rintro e w3 ⟨g, cap, n2, rfl, hown, hn2, hn4, hb3⟩; have HB3 := Lib.hid (belowCall HB.out hb3); have HQ := Lib.hid (own_below HO.out hb3); have HAT := Lib.hid (own_row hown).at; have HN2 := Lib.hid hn2; have c1 : n + n2 ≤ maxLen := (by unfold maxLen; omega); have c2 : (n + n2) * 1 ≤ 140737488355328 := (by omega); have HL := Lib.hid (show (bytesV (encF 65533)).length = n2 * 1 from (by rw [bytesV_length, hn2, Nat.mul_one])); clear hown hn2 hb3))
          | (at_builtin; go_must (refine wpList_append_slice _ rfl _ _ 33 rfl w.heap.size 5 i0 _ 1 1 Tryd.underlying33 hi hz0 hz1 hz2 rfl (by decide) _ n _ rfl HQ.out (some ⟨g, 0, none⟩) n2 cap (bytesV (encF 65533)) rfl HL.out (fun h => by cases h) HAT.out (bytesV_one' _) c1 c2 HB3.out.size ?_; intro v5 w5 hown5 hgr5; have HO5 := Lib.hid hown5; have HB5 := Lib.hid (HB3.out.grown hgr5 HB3.out.size (own_ge HQ.out)); clear hown5 hgr5)))
        go_roundw
        case rel => exact ⟨k + 1, n + n2, by go_num, by omega, by rw [HTK.out, bytesV_two]; exact HO5.out, by omega, HB5.out⟩
        case measure => simp [intOf]; omega
      · rw [hcb] at hcc
        obtain rfl : x = ((y : Nat) : Int) := hsub hcb
        have HC := Lib.hid hcc
        clear ho hb hat htk hsc hcc hsub hsub2 hxe hye hcb
        go_wp2_with (first
          | (go_at_call 25; go_must (refine (HC.out _).mono ?_; rintro e w2 ⟨rfl, rfl⟩))
          | (go_at_call 26; go_must (refine (HBY.out _).mono ?_; rintro e w3 ⟨g, cap, n2, rfl, hown, hn2, hn4, hb3⟩; have HB3 := Lib.hid (belowCall HB.out hb3); have HQ := Lib.hid (own_below HO.out hb3); have HAT := Lib.hid (own_row hown).at; have HN2 := Lib.hid hn2; have c1 : n + n2 ≤ maxLen := (by unfold maxLen; omega); have c2 : (n + n2) * 1 ≤ 140737488355328 := (by omega); have HL := Lib.hid (show (bytesV (encF y)).length = n2 * 1 from (by rw [bytesV_length, hn2, Nat.mul_one])); clear hown hn2 hb3))
          | (at_builtin; go_must (refine wpList_append_slice _ rfl _ _ 33 rfl w.heap.size 5 i0 _ 1 1 Tryd.underlying33 hi hz0 hz1 hz2 rfl (by decide) _ n _ rfl HQ.out (some ⟨g, 0, none⟩) n2 cap (bytesV (encF y)) rfl HL.out (fun h => by cases h) HAT.out (bytesV_one' _) c1 c2 HB3.out.size ?_; intro v5 w5 hown5 hgr5; have HO5 := Lib.hid hown5; have HB5 := Lib.hid (HB3.out.grown hgr5 HB3.out.size (own_ge HQ.out)); clear hown5 hgr5)))
        go_roundw
        case rel => exact ⟨k + 1, n + n2, by go_num, by omega, by rw [HTK.out, bytesV_two]; exact HO5.out, by omega, HB5.out⟩
        case measure => simp [intOf]; omega
    · have hfull : r.take k = r := List.take_of_length_le (by omega)
      rw [hfull] at HO
      have hback := text_of_own (P := Tryd.prog) Tryd.underlying33 Tryd.underlying5 Tryd.underlying9 HO.out
      have hkk : ¬ (k : Int) < (r.length : Int) := by omega
      clear ho hb
      go_wp2_with fail
      go_ret
      exact ⟨rfl, HB.out⟩

theorem own_slice {w : World} {base : Nat} {e : TypeId} {v : Value} {n : Nat} {xs : List Value} (h : w.ownsRow base e 1 v n xs) : ∃ a c, v = .slice a n c ∧ At w a xs := by
  rcases h.2 with ⟨rfl, rfl⟩ | ⟨g, cap, cur, rfl, _⟩
  · have hx : xs = [] := List.eq_nil_of_length_eq_zero (by have := h.1; omega)
    subst hx
    exact ⟨none, 0, rfl, At.nil _ _⟩
  · exact ⟨_, _, rfl, (own_row h).at⟩

set_option maxRecDepth 100000 in
set_option maxHeartbeats 1000000 in
theorem Decode_any (l : Str) (a : Option Addr) (cp : Nat) (w : World) (hl : l.length ≤ 1099511627776) (ha : At w a (bytesV l)) :
    Calls Tryd.prog 27 #[.slice a l.length cp] w fun e w' => ∃ r : List Int, r.length ≤ l.length ∧ e = .returned (.string (strB (r.flatMap encR))) ∧ Below w.heap.size w w' := by
  have HRU := Lib.hid (Runes_any l a cp w hl ha)
  clear ha
  go_enter Tryd.func27, Tryd.ntmps27
  go_wp2_with (first
    | (go_at_call 48; go_must (refine HRU.out.mono ?_; rintro e w2 ⟨v, r, rfl, hrl, hrx, hown, hb2⟩; obtain ⟨a2, c2, rfl, hat⟩ := own_slice hown; have HEN := Lib.hid (Encode08_any r a2 c2 w2 (by omega) hrx hat); have HB2 := Lib.hid hb2; clear hrx hown hat hb2))
    | (go_at_call 47; go_must (refine HEN.out.mono ?_; rintro e w3 ⟨rfl, hb3⟩; have HB3 := Lib.hid (belowCall HB2.out hb3); clear hb3)))
  go_ret
  exact ⟨r, hrl, rfl, HB3.out⟩
end Go.Proofs.YtcgkenmgglediaaDoor
