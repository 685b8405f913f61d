/-
  Contracts: colanderref14.in: what it computes; the world stays.
-/
import Derived.Test.YtclflmjpdglgiaaGreatOpenRS
namespace Go.Proofs.YtclflmjpdglgiaaGreat
open Go.RowKit Mem

def hitW (cur w : List UInt8) : Bool := !cur.isEmpty && cur == w
/-- is w one of the words of a list, behind cur? -/
def inR (w : List UInt8) : List UInt8 → List UInt8 → Bool
  | cur, [] => hitW cur w
  | cur, c :: r => if c = 32 then hitW cur w || inR w [] r else inR w (cur ++ [c]) r
theorem inR_stop (w cur L : List UInt8) (k : Nat) (h : k < L.length) (he : L[k] = 32) : inR w cur (L.drop k) = (hitW cur w || inR w [] (L.drop (k + 1))) := by
  rw [List.drop_eq_getElem_cons h, inR, if_pos he]
theorem inR_go (w cur L : List UInt8) (k : Nat) (h : k < L.length) (he : L[k] ≠ 32) : inR w cur (L.drop k) = inR w (cur ++ [L[k]]) (L.drop (k + 1)) := by
  rw [List.drop_eq_getElem_cons h, inR, if_neg he]
theorem inR_end (w cur L : List UInt8) (k : Nat) (h : L.length ≤ k) : inR w cur (L.drop k) = hitW cur w := by
  rw [List.drop_of_length_le h]; rfl

theorem cur_of (b : ByteArray) (i j : Nat) : (b.extract i j).toList = (b.toList.drop i).take (j - i) := by
  rw [ByteArray.toList_eq, ByteArray.toList_eq, ByteArray.data_extract, Array.toList_extract, List.extract_eq_take_drop]
theorem cur_next (L : List UInt8) (a k : Nat) (hak : a ≤ k) (h : k < L.length) : (L.drop a).take (k + 1 - a) = (L.drop a).take (k - a) ++ [L[k]] := by
  rw [show k + 1 - a = (k - a) + 1 from by omega, List.take_add_one]
  congr 1
  rw [List.getElem?_drop, show a + (k - a) = k from by omega]
  simp [h]
theorem byte_at (b : ByteArray) (k : Nat) (h : k < b.size) (h' : k < b.toList.length) : b[k] = b.toList[k] := by
  simp only [ByteArray.toList_eq]
  rfl

set_option maxRecDepth 100000 in
set_option maxHeartbeats 4000000 in
theorem in_any (word list : ByteArray) (w : World) (hl : list.size ≤ 100000) : Calls Tryz.prog 102 #[.string word, .string list] w fun e w' => e = .returned (.bool (inR word.toList [] list.toList)) ∧ w = w' := by
  have hsz := size_toList list
  obtain ⟨V, hV⟩ : ∃ V, V = inR word.toList [] list.toList := ⟨_, rfl⟩
  rw [← hV]
  have HVV := Lib.hid hV
  clear hV
  go_enter Tryz.func102, Tryz.ntmps102
  go_wp2_with fail
  go_loop [5, 6] (fun f i => (∃ a k : Nat, a ≤ k ∧ k ≤ list.size ∧ f = .int .i64 a ∧ i = .int .i64 k ∧ V = inR word.toList ((list.toList.drop a).take (k - a)) (list.toList.drop k)) ∨ (∃ a : Nat, f = .int .i64 a ∧ i = .int .i64 ((list.size : Int) + 1) ∧ V = false)) (fun f i => list.size + 1 - (intOf i).toNat)
  case atStart => exact .inl ⟨0, 0, Nat.le_refl _, Nat.zero_le _, rfl, rfl, HVV.out⟩
  case round =>
    rcases hrel with ⟨a, k, hak, hk, rfl, rfl, hv⟩ | ⟨a, rfl, rfl, hv⟩
    · have HV := Lib.hid hv
      clear hv
      have HCur := Lib.hid (cur_of list a k)
      by_cases hlt : k < list.size
      · have hne : ((k : Int) == (list.size : Int)) = false := by simp; omega
        have hlt' : k < list.toList.length := by omega
        have HB := Lib.hid (byte_at list k hlt hlt')
        by_cases h32 : list[k] = 32
        · have hb : ((list[k].toNat : Int) == 32) = true := by rw [h32]; rfl
          have HS := Lib.hid (inR_stop word.toList ((list.toList.drop a).take (k - a)) list.toList k hlt' (by rw [← HB.out]; exact h32))
          clear h32
          go_wp2_with fail
          all_goals first
            | (go_ret
               refine ⟨ret_bool ?_, rfl⟩
               rw [HV.out, HS.out, ← HCur.out]
               have hc : (list.extract a k).toList = word.toList := ‹_›
               rw [hc]
               simp only [hitW, beq_self_eq_true, Bool.and_true, Bool.true_eq, Bool.or_eq_true, Bool.not_eq_true', List.isEmpty_eq_false_iff]
               left
               intro e
               have h2 := size_toList (list.extract a k)
               rw [hc, e] at h2
               simp only [List.length_nil, ByteArray.size_extract] at h2
               omega)
            | (refine ⟨.inl ⟨k + 1, k + 1, Nat.le_refl _, hlt, rfl, rfl, ?_⟩, by simp [intOf]; omega⟩
               rw [HV.out, HS.out, ← HCur.out, Nat.sub_self, List.take_zero]
               have hh : hitW (list.extract a k).toList word.toList = false := by
                 first
                   | (have hc : ¬ ((list.extract a k).toList = word.toList) := ‹_›
                      simp [hitW, hc])
                   | (have hka : a = k := by omega
                      subst hka
                      rw [HCur.out, Nat.sub_self, List.take_zero]
                      rfl)
               rw [hh, Bool.false_or])
        · have hb : ((list[k].toNat : Int) == 32) = false := by
            rw [beq_eq_false_iff_ne]
            intro e
            refine h32 (UInt8.toNat_inj.1 ?_)
            show list[k].toNat = 32
            omega
          have HS := Lib.hid (inR_go word.toList ((list.toList.drop a).take (k - a)) list.toList k hlt' (by rw [← HB.out]; exact h32))
          clear h32
          go_wp2_with fail
          all_goals
            refine ⟨.inl ⟨a, k + 1, by omega, hlt, rfl, rfl, ?_⟩, by simp [intOf]; omega⟩
            rw [HV.out, HS.out, cur_next _ _ _ hak hlt']
      · obtain rfl : k = list.size := by omega
        have HS := Lib.hid (inR_end word.toList ((list.toList.drop a).take (list.size - a)) list.toList list.size (by omega))
        go_wp2_with fail
        all_goals first
          | (go_ret
             refine ⟨ret_bool ?_, rfl⟩
             rw [HV.out, HS.out, ← HCur.out]
             have hc : (list.extract a list.size).toList = word.toList := ‹_›
             rw [hc]
             simp only [hitW, beq_self_eq_true, Bool.and_true, Bool.true_eq, Bool.not_eq_true', List.isEmpty_eq_false_iff]
             intro e
             have h2 := size_toList (list.extract a list.size)
             rw [hc, e] at h2
             simp only [List.length_nil, ByteArray.size_extract] at h2
             omega)
          | (refine ⟨.inr ⟨list.size + 1, rfl, rfl, ?_⟩, by simp [intOf]⟩
             rw [HV.out, HS.out, ← HCur.out]
             first
               | (have hc : ¬ ((list.extract a list.size).toList = word.toList) := ‹_›
                  simp [hitW, hc])
               | (have hka : a = list.size := by omega
                  subst hka
                  rw [HCur.out, Nat.sub_self, List.take_zero]
                  rfl))
    · have HV := Lib.hid hv
      clear hv
      go_wp2_with fail
      go_ret
      exact ⟨ret_bool HV.out.symm, rfl⟩
end Go.Proofs.YtclflmjpdglgiaaGreat
