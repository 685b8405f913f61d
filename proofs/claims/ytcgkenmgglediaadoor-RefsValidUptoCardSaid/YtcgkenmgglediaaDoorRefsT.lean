/-
  The law RefsFinds, walked: true.
-/
import Derived.Test.YtcgkenmgglediaaDoorRefsS
import Derived.Test.YtcgkenmgglediaaDoorRefsE
namespace Go.Proofs.YtcgkenmgglediaaDoor
open Go.RowKit Mem

theorem of_wf {n : Int} (h : (Lit.int .i64 n).wf = true) : -9223372036854775808 ≤ n ∧ n ≤ 9223372036854775807 := by
  simp only [Lit.wf, Bool.and_eq_true, decide_eq_true_eq] at h
  exact h

set_option maxRecDepth 100000 in
set_option maxHeartbeats 2000000 in
theorem lawRefsFinds (s : ByteArray) (n : Int) (m : Int) (w : World) (hs : s.size ≤ maxLen) (hnw : (Lit.int .i64 n).wf = true) (hm : w.cell? ⟨0, 0, none⟩ = some (.int .i64 m)) :
    Calls Tryd.prog 3 #[.string s, .int .i64 n] w fun e w' => e = .returned (.bool true) ∧ Below w.heap.size w w' := by
  have hs' : s.size ≤ 9223372036854775807 := hs
  have hn := of_wf hnw
  have H0 := Lib.hid (shown_any m w hm)
  have H1 := Lib.hid (fun u => Find_any s u hs')
  have H2 := Lib.hid (fun u => Find12_any s u)
  have H3 := Lib.hid (fun u => Number_any n u hn.1 hn.2)
  have H4 := Lib.hid (fun u => Number12_any n u hn.1 hn.2)
  generalize strB (findF s.toList).1 = t at *
  generalize (findF s.toList).2 = k at *
  generalize strB (numF n) = x at *
  clear hm hs hs' hn hnw
  go_enter Tryd.func3, Tryd.ntmps3
  go_wp2_with (go_at_call 12; go_must (refine H0.out.mono ?_; rintro e w1 ⟨rfl, hb⟩; have HB1 := Lib.hid hb; clear hb))
  go_wp2_with (go_at_call 13; go_must (refine (H1.out _).mono ?_; rintro e w2 ⟨rfl, rfl⟩))
  go_wp2_with (go_at_call 14; go_must (refine (H2.out _).mono ?_; rintro e w3 ⟨rfl, hb⟩; have HB3 := Lib.hid (belowCall HB1.out hb); clear hb))
  go_wp2_with (go_at_call 15; go_must (refine (H3.out _).mono ?_; rintro e w4 ⟨rfl, hb⟩; have HB4 := Lib.hid (belowCall HB3.out hb); clear hb))
  go_wp2_with (go_at_call 16; go_must (refine (H4.out _).mono ?_; rintro e w5 ⟨rfl, hb⟩; have HB5 := Lib.hid (belowCall HB4.out hb); clear hb))
  go_ret
  exact ⟨rfl, HB5.out⟩
end Go.Proofs.YtcgkenmgglediaaDoor
