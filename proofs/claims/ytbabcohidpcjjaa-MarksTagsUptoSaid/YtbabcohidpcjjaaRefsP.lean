/-
  Contract: refs.All: all references replaced.
-/
import Derived.Test.YtbabcohidpcjjaaRefsM
import Derived.Lib.IndexLaws
namespace Go.Proofs.Ytbabcohidpcjjaa
open Go.RowKit Mem

theorem encF_le4 (c : Nat) : (encF c).length ≤ 4 := encF_len4 c
theorem ext_drop' (s : ByteArray) (a : Nat) : (s.extract a s.size).toList = s.toList.drop a := by
  rw [ext_list, List.take_of_length_le (by rw [List.length_drop, size_toList]; omega)]
theorem takeF_len (s : Str) (attr : Bool) (h : (takeF s attr).2 ≠ 0) : (takeF s attr).1.length ≤ 2 * (takeF s attr).2 := by
  rcases amp_cases s with ⟨r, rfl⟩ | ⟨r, rfl, h35⟩ | ⟨c, r, rfl, hc⟩ | rfl
  · rw [takeF_hash] at h ⊢
    unfold takeNum at h ⊢
    by_cases h0 : (numG r).1 = 0
    · rw [if_pos h0] at h; exact absurd rfl h
    · rw [if_neg h0]
      have := encF_le4 (numC (numG r).2)
      have hn : numN r = headN r + (numG r).1 := rfl
      show (numF _).length ≤ _
      unfold numF
      split <;> simp only <;> omega
  · rw [takeF_amp h35] at h ⊢
    unfold takeName at h ⊢
    cases hr : refused r attr
    · rw [hr] at h
      simp only [Bool.false_eq_true, if_false]
      have hk : ∀ k ∈ keys, k.2.length ≤ 2 * k.1.length := by decide +kernel
      rcases (findF_spec r).1 with ⟨h1, _⟩ | ⟨h1, h2, h3⟩
      · rw [refused_zero h1] at hr; cases hr
      · have := hk _ h3
        simp only [List.length_take] at this
        omega
    · rw [hr] at h; exact absurd rfl h
  · rw [takeF_other hc] at h; exact absurd rfl h
  · rw [takeF_nil] at h; exact absurd rfl h
theorem allS_len (attr : Bool) : ∀ (n : Nat) (s : Str), s.length ≤ n → (allS s attr).length ≤ 2 * s.length := by
  intro n
  induction n with
  | zero =>
    intro s hs
    have : s = [] := List.eq_nil_of_length_eq_zero (by omega)
    subst this
    simp [allS_nil]
  | succ n ih =>
    intro s hs
    cases s with
    | nil => simp [allS_nil]
    | cons c r =>
      simp only [List.length_cons] at hs
      rw [allS_cons]
      by_cases h : c = 38 ∧ (takeF (c :: r) attr).2 ≠ 0
      · rw [if_pos h, List.length_append]
        have h1 := takeF_len (c :: r) attr h.2
        have h2 := takeF_le (c :: r) attr
        have h3 := ih ((c :: r).drop (takeF (c :: r) attr).2) (by rw [List.length_drop, List.length_cons]; have := h.2; omega)
        rw [List.length_drop] at h3
        omega
      · rw [if_neg h]
        have := ih r (by omega)
        simp only [List.length_cons]
        omega
theorem allS_pre (attr : Bool) (x : Str) : ∀ p : Str, (∀ c ∈ p, c ≠ 38) → allS (p ++ x) attr = p ++ allS x attr
  | [], _ => rfl
  | c :: r, h => by
    rw [List.cons_append, allS_other (h c List.mem_cons_self), allS_pre attr x r fun d hd => h d (List.mem_cons_of_mem _ hd)]
    rfl
theorem idx_cases (s : ByteArray) : (Lib.indexByte s.data.toList 38 = -1 ∧ ∀ c ∈ s.toList, c ≠ 38) ∨ ∃ i r, Lib.indexByte s.data.toList 38 = (i : Nat) ∧ i < s.size ∧ s.toList.drop i = 38 :: r ∧ ∀ c ∈ s.toList.take i, c ≠ 38 := by
  rw [ByteArray.toList_eq]
  rcases Int.lt_or_le (Lib.indexByte s.data.toList 38) 0 with h | h
  · have h1 : Lib.indexByte s.data.toList 38 = -1 := by have := Lib.indexByte_ge s.data.toList 38; omega
    refine .inl ⟨h1, fun c hc e => ?_⟩
    obtain ⟨k, hk, rfl⟩ := List.getElem_of_mem hc
    exact Lib.indexByte_none h1 k (by rw [List.getElem?_eq_getElem hk, e])
  · obtain ⟨i, hi⟩ := Int.eq_ofNat_of_zero_le h
    obtain ⟨h1, h2⟩ := Lib.indexByte_some hi
    obtain ⟨hl, he⟩ := List.getElem?_eq_some_iff.1 h1
    refine .inr ⟨i, s.data.toList.drop (i + 1), hi, by simpa using hl, by rw [List.drop_eq_getElem_cons hl, he], fun c hc e => ?_⟩
    obtain ⟨k, hk, hke⟩ := List.getElem_of_mem hc
    simp only [List.length_take] at hk
    rw [List.getElem_take] at hke
    exact h2 k (by omega) (by rw [List.getElem?_eq_getElem (by omega), hke, e])
def strLen : Value → Nat
  | .string s => s.size
  | _ => 0
theorem strCells_bytes (s : ByteArray) : Lib.strCells s = bytesV s.toList := by rw [ByteArray.toList_eq]; rfl
theorem strCells_strB (l : Str) : Lib.strCells (strB l) = bytesV l := rfl
theorem bytesV_two (l r : Str) : bytesV (l ++ r) = bytesV l ++ bytesV r := by simp [bytesV]
theorem all_hit {attr : Bool} {r : Str} (h : (takeF (38 :: r) attr).2 ≠ 0) : allS (38 :: r) attr = (takeF (38 :: r) attr).1 ++ allS ((38 :: r).drop (takeF (38 :: r) attr).2) attr := by rw [allS_cons, if_pos ⟨rfl, h⟩]
theorem all_miss {attr : Bool} {r : Str} (h : (takeF (38 :: r) attr).2 = 0) : allS (38 :: r) attr = 38 :: allS r attr := by rw [allS_cons, if_neg (fun h' => h'.2 h)]

theorem builder_below {T e : TypeId} {B b : Nat} {bs : List Value} {w w' : World} (h : Lib.IsBuilderF T e B b bs w) (hb : Below w.heap.size w w') : Lib.IsBuilderF T e B b bs w' := by
  have key : ∀ p, Lib.BuilderAtF T e B b p bs w → Lib.BuilderAtF T e B b p bs w' := fun p hp => by
    have hlt := hp.lt
    obtain ⟨hB, v, hh, hown, hne⟩ := hp
    exact ⟨hB, v, (hb.block b hlt).trans hh, hown.kept (row := none) ⟨hb.os, hb.tape, hb.output, hb.size, fun k hk _ => hb.block k hk⟩ (by cases hv : v.ownBlock <;> simp), hne⟩
  exact h.imp (key _) (key _)

set_option maxRecDepth 100000 in
set_option maxHeartbeats 4000000 in
theorem All_any (s : ByteArray) (attr : Bool) (w : World) (hs : s.size ≤ 1099511627776) : Calls Try.prog 89 #[.string s, .bool attr] w fun e w' => e = .returned (.string (strB (allS s.toList attr))) ∧ Below w.heap.size w w' := by
  have HTot : Hid ((allS s.toList attr).length ≤ 2199023255552) := Lib.hid (by have := allS_len attr _ s.toList (Nat.le_refl _); rw [size_toList] at this; omega)
  go_enter Try.func89, Try.ntmps89
  go_wp2_with fail
  go_loopw [0] (fun v wr => ∃ (cur : ByteArray) (acc : Str), v = .string cur ∧ cur.size ≤ s.size ∧ Lib.IsBuilderF 66 5 w.heap.size w.heap.size (bytesV acc) wr ∧ Below w.heap.size w wr ∧ acc ++ allS cur.toList attr = allS s.toList attr) (fun v _ => strLen v)
  case atStart => exact ⟨s, [], rfl, Nat.le_refl _, Lib.IsBuilderF.of (Lib.fresh_isBuilder 66 5 w), (Below.refl _ _).alloc (Nat.le_refl _) _, rfl⟩
  case round =>
    obtain ⟨cur, acc, rfl, hcs, hI, hb, hv⟩ := hrel
    have HI := Lib.hid hI
    have HB := Lib.hid hb
    have HV := Lib.hid hv
    have hsz := hb.size
    have hacc : acc.length + (allS cur.toList attr).length ≤ 2199023255552 := by have := HTot.out; rw [← hv, List.length_append] at this; exact this
    have hcur : cur.size ≤ 1099511627776 := by omega
    clear hI hb hv
    rcases idx_cases cur with ⟨h1, h2⟩ | ⟨i, r, h1, hi, hdr, hpre⟩
    · have hix : ∀ u, Calls Try.prog 39 #[.string cur, .int .u8 38] u _ := fun u => IndexByte_any cur 38 u
      have e38 : (38 : Int).toNat.toUInt8 = 38 := rfl
      rw [e38, h1] at hix
      have hap := allS_plain attr cur.toList h2
      rw [hap] at hacc
      have HIX := Lib.hid hix
      have HAP := Lib.hid hap
      have hbl : (bytesV acc).length + cur.size ≤ 140737488355328 := by rw [bytesV_length, ← size_toList]; omega
      have HBL := Lib.hid hbl
      clear hix h1 h2 hap hacc hbl e38
      go_wp2_with (first
        | (go_at_call 39; go_must (refine (HIX.out _).mono ?_; rintro e w1 ⟨rfl, rfl⟩))
        | (go_at_call 30; go_must (refine (WriteString_any w.heap.size w.heap.size _ cur _ HI.out HBL.out hsz).mono ?_; rintro e W1 ⟨rfl, g1, b1, k1⟩; have HG1 := Lib.hid g1; have HB1 := Lib.hid b1; have hs1 := b1.size; have HI2 := Lib.hid (show Lib.IsBuilderF 66 5 w.heap.size w.heap.size (Lib.byteCells (acc ++ cur.toList)) W1 from by rw [show Lib.byteCells (acc ++ cur.toList) = bytesV acc ++ Lib.strCells cur from by rw [strCells_bytes]; exact bytesV_two _ _]; exact .inr g1); have hs2 := Nat.le_trans hsz (Nat.le_refl _); clear g1 b1 k1))
        | (go_at_call 32; go_must (refine (BString_any w.heap.size w.heap.size _ _ HI2.out (by have := HB1.out.size; omega)).mono ?_; rintro e W2 ⟨rfl, g2, b2, k2⟩; have HB2 := Lib.hid b2; clear g2 b2 k2)))
      go_ret
      exact ⟨ret_strB (by rw [← HV.out, HAP.out]), (HB.out.trans HB1.out).trans HB2.out⟩
    · have hix : ∀ u, Calls Try.prog 39 #[.string cur, .int .u8 38] u _ := fun u => IndexByte_any cur 38 u
      have e38 : (38 : Int).toNat.toUInt8 = 38 := rfl
      rw [e38, h1] at hix
      have HIX := Lib.hid hix
      have hcl : (cur.extract 0 i).toList = cur.toList.take i := by rw [ext_list, List.drop_zero, Nat.sub_zero]
      have hrl : (cur.extract i cur.size).toList = 38 :: r := by rw [ext_drop', hdr]
      have hall : allS cur.toList attr = cur.toList.take i ++ allS (38 :: r) attr := by
        conv => lhs; rw [← List.take_append_drop i cur.toList, hdr]
        exact allS_pre attr _ _ hpre
      have htk := fun u => Take_any (cur.extract i cur.size) attr u (by rw [ByteArray.size_extract]; omega)
      rw [hrl] at htk
      have hnle := takeF_le (38 :: r) attr
      have hrlen : (38 :: r : Str).length = cur.size - i := by rw [← hdr, List.length_drop, size_toList]
      rw [hall, List.length_append] at hacc
      have hcz : (cur.extract 0 i).size = (cur.toList.take i).length := by rw [← size_toList, hcl]
      have hbl : (bytesV acc).length + (cur.extract 0 i).size ≤ 140737488355328 := by rw [bytesV_length, hcz]; omega
      have HBL := Lib.hid hbl
      have hdn : ∀ n : Nat, (cur.extract (i + n) cur.size).toList = (38 :: r : Str).drop n := fun n => by rw [ext_drop', ← hdr, List.drop_drop]
      have HDN := Lib.hid hdn
      have HALL := Lib.hid hall
      have hext : ∀ W, Lib.BuilderAtF 66 5 w.heap.size w.heap.size (.pointer (some ⟨w.heap.size, 0, none⟩)) (bytesV acc ++ Lib.strCells (cur.extract 0 i)) W → Lib.IsBuilderF 66 5 w.heap.size w.heap.size (bytesV (acc ++ cur.toList.take i)) W := fun W hW => by
        rw [bytesV_two, ← hcl, ← strCells_bytes]; exact .inr hW
      have HEXT := Lib.hid hext
      clear hix h1 hcl hrl hdr hpre hall e38 hbl hdn hcz hext
      by_cases hn0 : (takeF (38 :: r) attr).2 = 0
      · have HM := Lib.hid (all_miss hn0)
        rw [hn0] at htk
        have HTK := Lib.hid htk
        rw [HM.out, List.length_cons] at hacc
        have hr1 : i + 1 ≤ cur.size := by simp only [List.length_cons] at hrlen; omega
        have hbl2 : (bytesV (acc ++ cur.toList.take i)).length + (⟨#[38]⟩ : ByteArray).size ≤ 140737488355328 := by rw [bytesV_length, List.length_append]; show _ + 1 ≤ _; omega
        have HBL2 := Lib.hid hbl2
        clear htk hn0 hnle hrlen hbl2 hacc
        go_wp2_with (go_at_call 39; go_must (refine (HIX.out _).mono ?_; rintro e w1 ⟨rfl, rfl⟩))
        refine (WriteString_any w.heap.size w.heap.size _ (cur.extract 0 i) _ HI.out HBL.out hsz).mono ?_
        rintro e W1 ⟨rfl, g1, b1, k1⟩
        have HI2 := Lib.hid (HEXT.out _ g1)
        have HB1 := Lib.hid (HB.out.trans b1)
        have hs1 := Nat.le_trans hsz b1.size
        clear g1 b1 k1
        dsimp only
        go_wp2_with (go_at_call 50; fail)
        refine (HTK.out _).mono ?_
        rintro e W2 ⟨rfl, hb2⟩
        have HI3 := Lib.hid (builder_below HI2.out hb2)
        have HB2 := Lib.hid (belowCall HB1.out hb2)
        have hs2 := Nat.le_trans hs1 hb2.size
        clear hb2
        dsimp only
        go_wp2_with (go_at_call 30; fail)
        refine (WriteString_any w.heap.size w.heap.size _ ⟨#[38]⟩ _ HI3.out HBL2.out hs2).mono ?_
        rintro e W3 ⟨rfl, g1, b1, k1⟩
        have HI4 := Lib.hid g1
        have HB3 := Lib.hid (HB2.out.trans b1)
        clear g1 b1 k1
        dsimp only
        go_wp2_with fail
        go_roundw
        case rel =>
          refine ⟨cur.extract (i + 1) cur.size, acc ++ cur.toList.take i ++ [38], rfl, by rw [ByteArray.size_extract]; omega, ?_, HB3.out, ?_⟩
          · rw [bytesV_two]; exact .inr HI4.out
          · rw [← HV.out, HALL.out, HM.out, HDN.out]; simp
        case measure => simp only [strLen, ByteArray.size_extract]; omega
      · have HM := Lib.hid (all_hit hn0)
        have hlen2 := takeF_len (38 :: r) attr hn0
        obtain ⟨n, hn⟩ : ∃ n, n = (takeF (38 :: r) attr).2 := ⟨_, rfl⟩
        rw [HM.out, List.length_append] at hacc
        rw [← hn] at htk hn0 hnle HM hacc
        have hnz : ((n : Nat) : Int) ≠ 0 := by omega
        have hnz' : (((n : Nat) : Int) == 0) = false := by rw [beq_eq_false_iff_ne]; exact hnz
        have hin : i + n ≤ cur.size := by omega
        have hn1 : 1 ≤ n := by omega
        have HTK := Lib.hid htk
        have hbl2 : (bytesV (acc ++ cur.toList.take i)).length + (strB (takeF (38 :: r) attr).1).size ≤ 140737488355328 := by rw [bytesV_length, List.length_append, strB_size]; omega
        have HBL2 := Lib.hid hbl2
        clear htk hn0 hnle hrlen hbl2 hacc hn hlen2 hnz
        go_wp2_with (go_at_call 39; go_must (refine (HIX.out _).mono ?_; rintro e w1 ⟨rfl, rfl⟩))
        refine (WriteString_any w.heap.size w.heap.size _ (cur.extract 0 i) _ HI.out HBL.out hsz).mono ?_
        rintro e W1 ⟨rfl, g1, b1, k1⟩
        have HI2 := Lib.hid (HEXT.out _ g1)
        have HB1 := Lib.hid (HB.out.trans b1)
        have hs1 := Nat.le_trans hsz b1.size
        clear g1 b1 k1
        dsimp only
        go_wp2_with (go_at_call 50; fail)
        refine (HTK.out _).mono ?_
        rintro e W2 ⟨rfl, hb2⟩
        have HI3 := Lib.hid (builder_below HI2.out hb2)
        have HB2 := Lib.hid (belowCall HB1.out hb2)
        have hs2 := Nat.le_trans hs1 hb2.size
        clear hb2
        dsimp only
        go_wp2_with (go_at_call 30; fail)
        refine (WriteString_any w.heap.size w.heap.size _ (strB (takeF (38 :: r) attr).1) _ HI3.out HBL2.out hs2).mono ?_
        rintro e W3 ⟨rfl, g1, b1, k1⟩
        have HI4 := Lib.hid g1
        have HB3 := Lib.hid (HB2.out.trans b1)
        clear g1 b1 k1
        dsimp only
        go_wp2_with fail
        go_roundw
        case rel =>
          refine ⟨cur.extract (i + n) cur.size, acc ++ cur.toList.take i ++ (takeF (38 :: r) attr).1, rfl, by rw [ByteArray.size_extract]; omega, ?_, HB3.out, ?_⟩
          · rw [bytesV_two]; exact .inr HI4.out
          · rw [← HV.out, HALL.out, HM.out, HDN.out]; simp
        case measure => simp only [strLen, ByteArray.size_extract]; omega
end Go.Proofs.Ytbabcohidpcjjaa
