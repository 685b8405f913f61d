/-
  The law RefsAll, walked: true for every text of at most 2^20 bytes.
-/
import Derived.Test.YtcgkenmgglediaaDoorRefsY
import Derived.Test.YtcgkenmgglediaaDoorRefsT
namespace Go.Proofs.YtcgkenmgglediaaDoor
open Go.RowKit Mem

set_option maxRecDepth 100000 in
set_option maxHeartbeats 4000000 in
theorem lawRefsAll (s : ByteArray) (attr : Bool) (m : Int) (w : World) (_ : s.size ≤ maxLen) (hsm : s.size ≤ 1048576) (hm : w.cell? ⟨0, 0, none⟩ = some (.int .i64 m)) :
    Calls Tryd.prog 5 #[.string s, .bool attr] w fun e w' => e = .returned (.bool true) ∧ Below w.heap.size w w' := by
  have H0 := Lib.hid (shown_any m w hm)
  have HM := Lib.hid hm
  have H1 := Lib.hid (fun u => All_any s attr u (by omega))
  have H2 := Lib.hid (fun u => All12_any s attr u (by omega))
  have H3 := Lib.hid (fun u hu => Escape_any s attr m u (by omega) hu)
  have H4 := Lib.hid (fun u => Escape12_any s attr u (by omega))
  generalize strB (allS s.toList attr) = t at *
  generalize strB (escS attr s.toList) = x at *
  clear hm hsm
  go_enter Tryd.func5, Tryd.ntmps5
  go_wp2_with (first
    | (go_at_call 12; go_must (refine H0.out.mono ?_; rintro e w1 ⟨rfl, hb⟩; have HB1 := Lib.hid hb; clear hb))
    | (go_at_call 21; go_must (refine (H1.out _).mono ?_; rintro e w2 ⟨rfl, hb⟩; have HB2 := Lib.hid (belowCall HB1.out hb); clear hb))
    | (go_at_call 22; go_must (refine (H2.out _).mono ?_; rintro e w3 ⟨rfl, hb⟩; have HB3 := Lib.hid (belowCall HB2.out hb); clear hb))
    | (go_at_call 23; go_must (refine (H3.out _ (cell_later HB3.out HM.out)).mono ?_; rintro e w4 ⟨rfl, hb⟩; have HB4 := Lib.hid (belowCall HB3.out hb); clear hb))
    | (go_at_call 24; go_must (refine (H4.out _).mono ?_; rintro e w5 ⟨rfl, hb⟩; have HB5 := Lib.hid (belowCall HB4.out hb); clear hb)))
  go_ret
  exact ⟨ret_bool (by simp), HB5.out⟩
end Go.Proofs.YtcgkenmgglediaaDoor
