/-
  Numbers, written and read: what the digits of a number say when they are read. Plain.
-/
import Derived.Test.YtcgkenmgglediaaDoorRefsT
import Derived.Laws.BitsLemmas
namespace Go.Proofs.YtcgkenmgglediaaDoor
open Go.RowKit Mem

/-- 'n & 7' -/
theorem and7 (x : Int) : ∃ p : Nat, p ≤ 7 ∧ bits .and .i64 x 7 = (p : Nat) := by
  have h7 : (BitVec.ofInt 64 x &&& BitVec.ofInt 64 7).toNat ≤ 7 := by rw [BitVec.toNat_and]; exact Nat.le_trans Nat.and_le_right (by decide)
  refine ⟨_, h7, ?_⟩
  show IntKind.i64.wrap ((BitVec.ofInt 64 x &&& BitVec.ofInt 64 7).toNat : Int) = _
  rw [IntKind.wrap_i64]
  omega

/-- what digits say behind a number that was read already -/
def rd (b : Nat) : Str → Nat → Nat
  | [], v => v
  | c :: r, v => rd b r (v * b + digV c.toNat)
theorem rd_ge {b : Nat} (hb : 1 ≤ b) : ∀ (l : Str) (v : Nat), v ≤ rd b l v
  | [], _ => Nat.le_refl _
  | c :: r, v => Nat.le_trans (by have := Nat.le_mul_of_pos_right v hb; omega) (rd_ge hb r (v * b + digV c.toNat))
theorem rd_append (b : Nat) (m : Str) : ∀ (l : Str) (v : Nat), rd b (l ++ m) v = rd b m (rd b l v)
  | [], _ => rfl
  | _ :: r, _ => rd_append b m r _
theorem rd_zeros (b : Nat) : ∀ p, rd b (List.replicate p 48) 0 = 0
  | 0 => rfl
  | p + 1 => by
    rw [List.replicate_succ, rd, show digV (48 : UInt8).toNat = 0 from by decide, Nat.zero_mul]
    exact rd_zeros b p
theorem digF_none {b : Nat} {c : UInt8} (h : digF b c = none) : ¬ digV c.toNat < b := fun h' => by
  rw [digF, if_pos h'] at h
  cases h
theorem digsF_rd {b : Nat} (hb : 1 ≤ b) {x : Str} (hx : ∀ c, x.head? = some c → digF b c = none) : ∀ (l : Str) (k v : Nat), (∀ c ∈ l, digV c.toNat < b) → l.length ≤ k → rd b l v ≤ 0x110000 → digsF b k (l ++ x) v = (l.length, rd b l v)
  | [], k, v, _, _, _ => by
    rw [List.nil_append]
    cases k with
    | zero => exact digsF_fuel
    | succ k =>
      cases x with
      | nil => exact digsF_nil
      | cons c r => exact digsF_break (digF_none (hx c rfl))
  | c :: r, 0, v, _, h, _ => by simp at h
  | c :: r, k + 1, v, hd, hl, hv => by
    have h1 := rd_ge hb r (v * b + digV c.toNat)
    have h2 : min (v * b + digV c.toNat) 0x110000 = v * b + digV c.toNat := Nat.min_eq_left (Nat.le_trans h1 hv)
    rw [List.cons_append, digsF_go (hd c List.mem_cons_self), h2, digsF_rd hb hx r k _ (fun d h => hd d (List.mem_cons_of_mem _ h)) (by simpa using hl) hv]
    rfl

theorem stop_head {b : Nat} {e : Str} (hb : b ≤ 16) (he : e = [] ∨ e = [59]) : ∀ c, (e ++ [122]).head? = some c → digF b c = none := by
  intro c hc
  have : c = 122 ∨ c = 59 := by rcases he with rfl | rfl <;> simp at hc <;> simp [hc]
  have h99 : digV c.toNat = 99 := by rcases this with rfl | rfl <;> decide
  rw [digF, if_neg (by rw [h99]; omega)]
theorem dig_not_x {ch : UInt8} (h : digV ch.toNat < 16) : (ch == 120 || ch == 88) = false := by
  rw [Bool.or_eq_false_iff, beq_eq_false_iff_ne, beq_eq_false_iff_ne]
  constructor
  · rintro rfl; revert h; decide
  · rintro rfl; revert h; decide

theorem num_reads {b : Nat} {hd pad ten e : Str} {c : Nat} (hcase : (b = 10 ∧ hd = []) ∨ (b = 16 ∧ (hd = [120] ∨ hd = [88])))
    (hp : ∃ p, p ≤ 7 ∧ pad = List.replicate p 48) (ht : ∀ ch ∈ ten, digV ch.toNat < b) (hl : ten.length ≤ 7) (hr : rd b ten 0 = c) (hc0 : c ≠ 0) (hc : c ≤ 0x10ffff) (he : e = [] ∨ e = [59]) :
    headN (hd ++ (pad ++ ten ++ (e ++ [122]))) = hd.length ∧ numG (hd ++ (pad ++ ten ++ (e ++ [122]))) = (pad.length + ten.length, c) ∧ 1 ≤ ten.length := by
  obtain ⟨p, hp7, rfl⟩ := hp
  have h1 : 1 ≤ ten.length := by
    cases ten with
    | nil => exact absurd hr.symm hc0
    | cons _ _ => simp
  have key : ∀ b, 1 ≤ b → b ≤ 16 → (∀ ch ∈ ten, digV ch.toNat < b) → rd b ten 0 = c → digsF b 16 (List.replicate p 48 ++ ten ++ (e ++ [122])) 0 = ((List.replicate p (48 : UInt8)).length + ten.length, c) := by
    intro b hb hb16 ht hr
    rw [digsF_rd hb (stop_head hb16 he) (List.replicate p 48 ++ ten) 16 0 (fun ch hch => ?_) (by simp; omega) (by rw [rd_append, rd_zeros, hr]; omega), rd_append, rd_zeros, hr, List.length_append]
    rcases List.mem_append.1 hch with h | h
    · rw [(List.mem_replicate.1 h).2]; show 0 < b; omega
    · exact ht ch h
  rcases hcase with ⟨rfl, rfl⟩ | ⟨rfl, hd'⟩
  · have hx : xB ([] ++ (List.replicate p 48 ++ ten ++ (e ++ [122]))) = false := by
      cases p with
      | succ p => rfl
      | zero =>
        cases ten with
        | nil => simp at h1
        | cons ch r => exact dig_not_x (Nat.lt_trans (ht ch List.mem_cons_self) (by decide))
    obtain ⟨hn, hg⟩ := head_n hx
    exact ⟨hn, by rw [hg, List.drop_zero, List.nil_append]; exact key 10 (by decide) (by decide) ht hr, h1⟩
  · have hx : xB (hd ++ (List.replicate p 48 ++ ten ++ (e ++ [122]))) = true := by rcases hd' with rfl | rfl <;> rfl
    obtain ⟨hn, hg⟩ := head_x hx
    have hl1 : hd.length = 1 := by rcases hd' with rfl | rfl <;> rfl
    refine ⟨by rw [hn, hl1], ?_, h1⟩
    rw [hg, List.drop_append_of_le_length (by omega), List.drop_of_length_le (by omega), List.nil_append]
    exact key 16 (by decide) (by decide) ht hr

theorem num_take {attr : Bool} {b : Nat} {hd pad ten e : Str} {c : Nat} (hcase : (b = 10 ∧ hd = []) ∨ (b = 16 ∧ (hd = [120] ∨ hd = [88])))
    (hp : ∃ p, p ≤ 7 ∧ pad = List.replicate p 48) (ht : ∀ ch ∈ ten, digV ch.toNat < b) (hl : ten.length ≤ 7) (hr : rd b ten 0 = c) (hc0 : c ≠ 0) (hc : c ≤ 0x10ffff) (he : e = [] ∨ e = [59]) :
    takeF (38 :: 35 :: (hd ++ (pad ++ ten ++ (e ++ [122])))) attr = (numF c, hd.length + (pad.length + ten.length) + e.length + 2) := by
  obtain ⟨h1, h2, h3⟩ := num_reads hcase hp ht hl hr hc0 hc he
  have hN : numN (hd ++ (pad ++ ten ++ (e ++ [122]))) = hd.length + (pad.length + ten.length) := by rw [numN, h1, h2]
  have hdr : (hd ++ (pad ++ ten ++ (e ++ [122]))).drop (hd.length + (pad.length + ten.length)) = e ++ [122] := by
    rw [← List.append_assoc, List.drop_append_of_le_length (by simp), List.drop_of_length_le (by simp), List.nil_append]
  have h0 : (numG (hd ++ (pad ++ ten ++ (e ++ [122])))).1 ≠ 0 := by rw [h2]; show pad.length + ten.length ≠ 0; omega
  rw [takeF_hash]
  rcases he with rfl | rfl
  · rw [takeNum_open h0 (by rw [hN, hdr]; simp), hN, h2]; rfl
  · rw [takeNum_semi h0 (by rw [hN, hdr]; simp), hN, h2]; rfl

/-- the digits that are written so far -/
def Good (b c : Nat) (l : Str) (v : Nat) : Prop := (∀ ch ∈ l, digV ch.toNat < b) ∧ rd b l v = c ∧ v * b ^ l.length ≤ c ∧ l.length ≤ 7
theorem Good.start (b c : Nat) : Good b c [] c := ⟨fun _ h => (by cases h), rfl, (by simp), (by simp)⟩
theorem Good.step {b c v : Nat} {l : Str} {x : UInt8} (h : Good b c l v) (hb : 10 ≤ b) (hv : 0 < v) (hc : c ≤ 1114111) (hx : digV x.toNat = v % b) : Good b c (x :: l) (v / b) := by
  obtain ⟨h1, h2, h3, h4⟩ := h
  refine ⟨fun ch hch => ?_, ?_, ?_, ?_⟩
  · rcases List.mem_cons.1 hch with rfl | hch
    · rw [hx]; exact Nat.mod_lt _ (by omega)
    · exact h1 ch hch
  · rw [rd, hx, Nat.mul_comm, Nat.div_add_mod, h2]
  · rw [List.length_cons, Nat.pow_succ, Nat.mul_comm (b ^ l.length) b, ← Nat.mul_assoc]
    exact Nat.le_trans (Nat.mul_le_mul_right _ (Nat.div_mul_le_self v b)) h3
  · rw [List.length_cons]
    rcases Nat.lt_or_ge l.length 7 with h | h
    · omega
    · have e7 : l.length = 7 := by omega
      have p1 : 10 ^ 7 ≤ b ^ 7 := Nat.pow_le_pow_left hb 7
      have p2 : b ^ 7 ≤ v * b ^ 7 := Nat.le_mul_of_pos_left _ hv
      rw [e7] at h3
      have : (10 : Nat) ^ 7 = 10000000 := by decide
      omega
def d10 : ByteArray := ⟨#[48, 49, 50, 51, 52, 53, 54, 55, 56, 57]⟩
def d16 : ByteArray := ⟨#[48, 49, 50, 51, 52, 53, 54, 55, 56, 57, 97, 98, 99, 100, 101, 102]⟩
def D16 : ByteArray := ⟨#[48, 49, 50, 51, 52, 53, 54, 55, 56, 57, 65, 66, 67, 68, 69, 70]⟩
theorem piece10 : ∀ r < 10, ∃ x : UInt8, (d10.extract r (r + 1)).toList = [x] ∧ digV x.toNat = r := by
  intro r hr
  have h : ∀ r < 10, ([48, 49, 50, 51, 52, 53, 54, 55, 56, 57].drop r).take 1 = [([48, 49, 50, 51, 52, 53, 54, 55, 56, 57] : Str).getD r 0] ∧ digV (([48, 49, 50, 51, 52, 53, 54, 55, 56, 57] : Str).getD r 0).toNat = r := by decide +kernel
  refine ⟨_, ?_, (h r hr).2⟩
  rw [ext_list, Nat.add_sub_cancel_left, ByteArray.toList_eq]
  exact (h r hr).1
theorem piece16 : ∀ r < 16, ∃ x : UInt8, (d16.extract r (r + 1)).toList = [x] ∧ digV x.toNat = r := by
  intro r hr
  have h : ∀ r < 16, ([48, 49, 50, 51, 52, 53, 54, 55, 56, 57, 97, 98, 99, 100, 101, 102].drop r).take 1 = [([48, 49, 50, 51, 52, 53, 54, 55, 56, 57, 97, 98, 99, 100, 101, 102] : Str).getD r 0] ∧ digV (([48, 49, 50, 51, 52, 53, 54, 55, 56, 57, 97, 98, 99, 100, 101, 102] : Str).getD r 0).toNat = r := by decide +kernel
  refine ⟨_, ?_, (h r hr).2⟩
  rw [ext_list, Nat.add_sub_cancel_left, ByteArray.toList_eq]
  exact (h r hr).1
theorem pieceL : ∀ r < 16, ∃ x : UInt8, (D16.extract r (r + 1)).toList = [x] ∧ digV x.toNat = r := by
  intro r hr
  have h : ∀ r < 16, ([48, 49, 50, 51, 52, 53, 54, 55, 56, 57, 65, 66, 67, 68, 69, 70].drop r).take 1 = [([48, 49, 50, 51, 52, 53, 54, 55, 56, 57, 65, 66, 67, 68, 69, 70] : Str).getD r 0] ∧ digV (([48, 49, 50, 51, 52, 53, 54, 55, 56, 57, 65, 66, 67, 68, 69, 70] : Str).getD r 0).toNat = r := by decide +kernel
  refine ⟨_, ?_, (h r hr).2⟩
  rw [ext_list, Nat.add_sub_cancel_left, ByteArray.toList_eq]
  exact (h r hr).1
theorem pad_list (p : Nat) (hp : p ≤ 7) : ((⟨#[48, 48, 48, 48, 48, 48, 48, 48, 48]⟩ : ByteArray).extract 0 p).toList = List.replicate p 48 := by
  rw [ext_list, List.drop_zero, Nat.sub_zero, ByteArray.toList_eq]
  have h : ∀ p ≤ 7, ([48, 48, 48, 48, 48, 48, 48, 48, 48] : Str).take p = List.replicate p 48 := by decide +kernel
  exact h p hp
end Go.Proofs.YtcgkenmgglediaaDoor
