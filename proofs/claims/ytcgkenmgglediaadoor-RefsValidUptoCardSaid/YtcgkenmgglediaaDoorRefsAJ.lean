/-
  The law RefsValid, walked: true of at most 2^20 bytes.
-/
import Derived.Test.YtcgkenmgglediaaDoorRefsAI
import Derived.Test.YtcgkenmgglediaaDoorRefsT
import Derived.Test.YtcgkenmgglediaaDoorLaw
namespace Go.Proofs.YtcgkenmgglediaaDoor
open Go.RowKit Mem

set_option maxRecDepth 100000 in
set_option maxHeartbeats 4000000 in
theorem lawRefsValid (l : Str) (a : Option Addr) (cp : Nat) (attr : Bool) (m : Int) (w : World) (hl : l.length ≤ 1048576) (ha : At w a (bytesV l)) (hm : w.cell? ⟨0, 0, none⟩ = some (.int .i64 m)) :
    Calls Tryd.prog 11 #[.slice a l.length cp, .bool attr] w fun e w' => e = .returned (.bool true) ∧ Below w.heap.size w w' := by
  have H0 := Lib.hid (shown_any m w hm)
  have HM := Lib.hid hm
  have HD := Lib.hid (fun u hu => Decode_any l a cp u (by omega) (At.below ha hu))
  have HAL := Lib.hid (fun (r : List Int) (hr : r.length ≤ 1048576) u => All_any (strB (r.flatMap encR)) attr u (by rw [strB_size]; have := flat_len encR encR_len4 r; omega))
  have HES := Lib.hid (fun (r : List Int) (hr : r.length ≤ 1048576) u hu => Escape_any (strB (r.flatMap encR)) attr m u (by rw [strB_size]; have := flat_len encR encR_len4 r; omega) hu)
  have HF := Lib.hid (fun (t : Str) (ht : Valid t) (hz : t.length ≤ 1099511627776) (g c : Nat) u (h : Row u g (bytesV t)) => Fault_valid t ht (some ⟨g, 0, none⟩) c u hz h.at)
  have HCV := Lib.hid (fun (u : World) (s : ByteArray) => run_bytes_of (P := Tryd.prog) u 9 33 5 s Tryd.underlying9 Tryd.underlying33 Tryd.underlying5)
  clear ha hm
  go_enter Tryd.func11, Tryd.ntmps11
  go_wp2_with (first
    | (go_at_call 12; go_must (refine H0.out.mono ?_; rintro e w1 ⟨rfl, hb⟩; have HB1 := Lib.hid hb; clear hb))
    | (go_at_call 27; go_must (refine (HD.out _ HB1.out).mono ?_; rintro e w2 ⟨r, hrl, rfl, hb⟩; have HR := Lib.hid (Nat.le_trans hrl hl); have HB2 := Lib.hid (belowCall HB1.out hb); clear hb hrl)))
  refine (HAL.out r HR.out _).mono ?_
  rintro e w3 ⟨rfl, hb⟩
  have HB3 := Lib.hid (belowCall HB2.out hb)
  have hva : Valid (allS (strB (r.flatMap encR)).toList attr) := by rw [toList_strB]; exact valid_allS attr _ _ (Nat.le_refl _) (valid_runes r)
  have hve : Valid (escS attr (strB (r.flatMap encR)).toList) := by rw [toList_strB]; exact valid_escS attr (valid_runes r)
  have hla : (allS (strB (r.flatMap encR)).toList attr).length ≤ 1099511627776 := by
    have h1 := allS_len attr _ (strB (r.flatMap encR)).toList (Nat.le_refl _)
    have h2 := flat_len encR encR_len4 r
    have h3 := HR.out
    rw [toList_strB] at h1 ⊢
    omega
  have hlen : (escS attr (strB (r.flatMap encR)).toList).length ≤ 1099511627776 := by
    have h1 : (escS attr (strB (r.flatMap encR)).toList).length ≤ 6 * (strB (r.flatMap encR)).toList.length := escG_len attr _ false
    have h2 := flat_len encR encR_len4 r
    have h3 := HR.out
    rw [toList_strB] at h1 ⊢
    omega
  clear hb
  dsimp only
  generalize allS (strB (r.flatMap encR)).toList attr = t at *
  go_wp2_with (go_at_call 23; fail)
  refine (HES.out r HR.out _ (cell_later HB3.out HM.out)).mono ?_
  rintro e w4 ⟨rfl, hb⟩
  have HB4 := Lib.hid (belowCall HB3.out hb)
  clear hb
  dsimp only
  generalize escS attr (strB (r.flatMap encR)).toList = x at *
  obtain ⟨c1, W1, hconv1, hb1, hsz1, hrow1, hge1⟩ := HCV.out w4 (strB t)
  rw [toList_strB] at hrow1
  have HB5 := Lib.hid (belowCall HB4.out hb1)
  have HF1 := Lib.hid (HF.out t hva hla _ c1 W1 hrow1)
  obtain ⟨c2, W2, hconv2, hb2, hsz2, hrow2, hge2⟩ := HCV.out W1 (strB x)
  rw [toList_strB] at hrow2
  have HB6 := Lib.hid (belowCall HB5.out hb2)
  have HF2 := Lib.hid (HF.out x hve hlen _ c2 W2 hrow2)
  rw [strB_size] at hconv1 hconv2
  have hst := strB_size t
  have hsx := strB_size x
  clear hb1 hb2 hrow1 hrow2 hva hve hge1 hge2 hsz1 hsz2 HAL HES HD HF HCV
  generalize strB t = T at *
  generalize strB x = X at *
  generalize strB (r.flatMap encR) = R at *
  generalize hnt : t.length = nt at *
  generalize hnx : x.length = nx at *
  clear hnt hnx
  go_wp2_with (go_at_call 28; fail)
  refine HF1.out.mono ?_
  rintro e W3 ⟨rfl, rfl⟩
  dsimp only
  go_wp2_with (go_at_call 28; fail)
  refine HF2.out.mono ?_
  rintro e W4 ⟨rfl, rfl⟩
  dsimp only
  go_wp2_with fail
  go_ret
  exact ⟨ret_bool (by simp), HB6.out⟩
theorem cells_bytes : ∀ E : List (List Value), (∀ u ∈ E, ∃ b : UInt8, u = [.int .u8 (b.toNat : Nat)]) → ∃ l : Str, E.flatten = bytesV l ∧ l.length = E.length
  | [], _ => ⟨[], rfl, rfl⟩
  | u :: E, h => by
    obtain ⟨b, rfl⟩ := h u List.mem_cons_self
    obtain ⟨l, h1, h2⟩ := cells_bytes E fun x hx => h x (List.mem_cons_of_mem _ hx)
    exact ⟨b :: l, by rw [List.flatten_cons, h1]; rfl, by rw [List.length_cons, List.length_cons, h2]⟩
/-- bytes that came in -/
theorem open_bytes {H : Type} {enc : TypeId × Value → H} {W : World} {base : Nat} {spare : Nat → Bool} {held : Bool} {r : Reach} {b0 : Nat} {v : Value} {d : DataW H} {p : List MemPlace}
    (hv : Value.okWide Tryd.prog W r b0 33 v) (h : DataW.Trod enc Tryd.prog W base spare held 33 v d p) : ∃ (a : Option Addr) (c : Nat) (l : Str), v = .slice a l.length c ∧ At W a (bytesV l) := by
  obtain ⟨a0, n0, c0, rfl⟩ := Go.WideShapes.okWide_slice Tryd.underlying33 hv
  obtain ⟨fuel, hf⟩ := h
  obtain ⟨a, cap, E, he, _, _, _, hat, hE⟩ := Law.slice_cells (P := Tryd.prog) Tryd.underlying33 (by simpa [Value.cells] using hf)
  obtain ⟨l, h1, h2⟩ := cells_bytes E fun u hu => by
    obtain ⟨_, n, y, hy⟩ := hE u hu
    obtain ⟨m, rfl, _, hw⟩ := DataW.trod_int Tryd.underlying5 hy
    have hm : 0 ≤ m ∧ m ≤ 255 := by
      simp only [Lit.wf, Bool.and_eq_true, decide_eq_true_eq] at hw
      exact hw
    refine ⟨UInt8.ofNat m.toNat, ?_⟩
    rw [of_nat (by omega), Int.toNat_of_nonneg hm.1]
  simp only [List.cons.injEq, Value.slice.injEq, and_true] at he
  obtain ⟨rfl, rfl, rfl⟩ := he
  exact ⟨a0, c0, l, by rw [h2], by rw [← h1]; exact hat⟩
end Go.Proofs.YtcgkenmgglediaaDoor
