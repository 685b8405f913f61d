import Derived.Test.YtidbihdnginmcaaRfQ
import Derived.Test.YtidbihdnginmcaaOpenY
import Derived.Test.YtidbihdnginmcaaOpenZ
import Derived.Test.YtidbihdnginmcaaOpenCount
import Derived.Test.YtidbihdnginmcaaForH
import Derived.Test.YtidbihdnginmcaaCalm
import Derived.Test.YtidbihdnginmcaaRun
import Derived.Test.YtidbihdnginmcaaIntsA
import Derived.Test.YtidbihdnginmcaaOpenP
/-
  What moving kids and taking a node out leave: plain Lean, no Go. (Layer 14.)
-/
namespace Go.Proofs.Ytidbihdnginmcaa
open Go.RowKit Mem

/-- what was below b still is when kids go to b -/
theorem mv_below {T : TreeD} (hw : WF T) {a b : Nat} {P R : List Int} {m : Int} (hm : m < T.nodes.length) (h : Reach T b m) : Reach (MV T a b P R) b m := by
  induction h with
  | here => exact .here
  | @up m h0 _ ih =>
    obtain ⟨i, rfl⟩ := Int.eq_ofNat_of_zero_le (by omega : 0 ≤ m)
    have hi : i < T.nodes.length := by omega
    refine .up h0 ?_
    rw [MV_parent i hi]
    split
    · exact .here
    · exact ih (hw.par i hi).2
theorem mv_count {T : TreeD} (hw : WF T) {a b : Nat} {P R : List Int} : cntF T b ≤ cntF (MV T a b P R) b := by
  rw [cntF, cntF, MV_len]
  refine List.countP_mono_left fun m hm h => ?_
  simp only [List.mem_range] at hm
  simp only [Bool.and_eq_true, decide_eq_true_eq] at h ⊢
  refine ⟨h.1, ?_⟩
  have hr : Reach T (b : Int) (m : Int) := by simpa [belowF] using h.2
  exact belowF_true (mv_below hw (by omega) hr)
/-- what is told of a node hangs on what is below it alone -/
theorem readN_same {T U : TreeD} (hw : WF T) : ∀ (d : Nat) (n : Nat), 1 ≤ n → n < T.nodes.length →
    (∀ m : Nat, Reach T n m → m < T.nodes.length → kidsF U m = kidsF T m ∧ (U.nodes[m]?).map (fun d => (d.elem, d.space, d.name, d.attrs, d.text)) = (T.nodes[m]?).map (fun d => (d.elem, d.space, d.name, d.attrs, d.text))) → readN d U n = readN d T n
  | 0, _, _, _, _ => rfl
  | d + 1, n, h1, hn, h => by
    obtain ⟨hk, hd⟩ := h n .here hn
    have hT : T.nodes[n]? = some T.nodes[n] := List.getElem?_eq_getElem hn
    rw [hT] at hd
    cases hU : U.nodes[n]? with
    | none => rw [hU] at hd; cases hd
    | some u =>
      rw [hU] at hd
      simp only [Option.map_some, Option.some.injEq, Prod.mk.injEq] at hd
      obtain ⟨e1, e2, e3, e4, e5⟩ := hd
      simp only [readN, Int.toNat_natCast, hU, hT]
      rw [e1, e2, e3, e4, e5, hk]
      split
      · congr 1
        refine List.map_congr_left fun x hx => ?_
        obtain ⟨x1, x2, x3⟩ := hw.kid n hn x hx
        obtain ⟨k, rfl⟩ := Int.eq_ofNat_of_zero_le (by omega : 0 ≤ x)
        exact readN_same hw d k (by omega) (by omega) fun m hm hml => h m (kid_reach hw hn hx hm) hml
      · rfl
/-- a node that is taken out is as it was -/
theorem take_read {T : TreeD} (hw : WF T) (d : Nat) {a : Nat} (h1 : 1 ≤ a) (ha : a < T.nodes.length) : readN d (takeF T a) a = readN d T a := by
  refine readN_same hw d a h1 ha fun m hm hml => ⟨?_, ?_⟩
  · rw [takeF_kids hw ha m hml]
    split
    · rename_i e
      exfalso
      by_cases hp : 1 ≤ parentF T a
      · have hmem := hw.mem a ha (by omega)
        rw [← e] at hmem
        exact kid_not_above hw hml (by omega) hmem hm
      · have h0 : (m : Int) ≤ 0 := by omega
        rw [reach_low h0] at hm
        omega
    · rfl
  · rw [takeF, modN_get, kidsOff]
    have hs : ∀ (U : TreeD) (p : Int) (l : List Int), ((modN U p (setKids l)).nodes[m]?).map (fun d => (d.elem, d.space, d.name, d.attrs, d.text)) = (U.nodes[m]?).map (fun d => (d.elem, d.space, d.name, d.attrs, d.text)) := by
      intro U p l
      simp only [modN, List.getElem?_modify]
      cases U.nodes[m]? with
      | none => rfl
      | some d => simp only [Option.map_some]; split <;> rfl
    split <;> split <;> first | rfl | skip
    · rw [Option.map_map]
      have := hs T (parentF T a) ((kidsF T (parentF T a)).filter (· != (a : Int)))
      cases hx : (modN T (parentF T a) (setKids ((kidsF T (parentF T a)).filter (· != (a : Int))))).nodes[m]? with
      | none => rw [hx] at this; rw [← this]; rfl
      | some d => rw [hx] at this; rw [← this]; rfl
    · rw [Option.map_map]
      cases T.nodes[m]? <;> rfl
    · exact hs _ _ _
end Go.Proofs.Ytidbihdnginmcaa

/-
  Contract: colanderref14.SameNode: two nodes that are the same, with all below them, are told to be the same. No conditions beyond those that each lemma types.
-/
namespace Go.Proofs.Ytidbihdnginmcaa
open Go.RowKit Mem

set_option maxRecDepth 100000 in
set_option maxHeartbeats 8000000 in
theorem same_step (kind space : Int) (name text : ByteArray) (at' : List Pair) (a a' : Option Addr) (ac ac' : Nat) (ka ka' : Option Addr) (kc kc' : Nat) (kids : List NT) (css css' : List (List Value)) (w : World)
    (h1 : at'.length ≤ ac) (h2 : ac ≤ maxLen) (h4 : AtF Non w a (pairsV at')) (h4' : AtF Non w a' (pairsV at'))
    (k1 : kids.length ≤ kc) (k2 : kc ≤ maxLen) (k4 : AtF Non w ka css.flatten) (k4' : AtF Non w ka' css'.flatten) (hl : css.length = kids.length) (hl' : css'.length = kids.length)
    (hk : ∀ i (h : i < css.length) (h' : i < kids.length), NodeC Non w css[i] kids[i]) (hk' : ∀ i (h : i < css'.length) (h' : i < kids.length), NodeC Non w css'[i] kids[i])
    (ih : ∀ j (h : j < kids.length) (cs cs' : List Value) (u : World), NodeC Non u cs kids[j] → NodeC Non u cs' kids[j] → Calls Try.prog 19 #[.agg cs.toArray, .agg cs'.toArray] u fun e u' => e = .returned (.bool true) ∧ Below u.heap.size u u') :
    Calls Try.prog 19 #[.agg #[.int .i64 kind, .int .i64 space, .string name, .slice a at'.length ac, .string text, .slice ka kids.length kc], .agg #[.int .i64 kind, .int .i64 space, .string name, .slice a' at'.length ac', .string text, .slice ka' kids.length kc']] w fun e w' => e = .returned (.bool true) ∧ Below w.heap.size w w' := by
  have HA := Lib.hid h4
  have HA' := Lib.hid h4'
  have HK4 := Lib.hid k4
  have HK4' := Lib.hid k4'
  have HK := Lib.hid hk
  have HK' := Lib.hid hk'
  have HIH := Lib.hid ih
  have HL := Lib.hid hl
  have HL' := Lib.hid hl'
  have hX := (Below.heap_alloc (w.alloc (.cells #[.int .i64 kind, .int .i64 space, .string name, .slice a at'.length ac, .string text, .slice ka kids.length kc] 36)) (.cells #[.int .i64 kind, .int .i64 space, .string name, .slice a' at'.length ac', .string text, .slice ka' kids.length kc'] 36) w.heap.size (by simp)).trans (heap_alloc_new w (.cells #[.int .i64 kind, .int .i64 space, .string name, .slice a at'.length ac, .string text, .slice ka kids.length kc] 36))
  have hY := heap_new_at (w := w.alloc (.cells #[.int .i64 kind, .int .i64 space, .string name, .slice a at'.length ac, .string text, .slice ka kids.length kc] 36)) (n := w.heap.size + 1) (o := .cells #[.int .i64 kind, .int .i64 space, .string name, .slice a' at'.length ac', .string text, .slice ka' kids.length kc'] 36) (by simp)
  have hb := ((Below.refl w.heap.size w).alloc (Nat.le_refl _) (.cells #[.int .i64 kind, .int .i64 space, .string name, .slice a at'.length ac, .string text, .slice ka kids.length kc] 36)).alloc (by simp) (.cells #[.int .i64 kind, .int .i64 space, .string name, .slice a' at'.length ac', .string text, .slice ka' kids.length kc'] 36)
  unfold maxLen at h2 k2
  have hkc : kids.length ≤ 9223372036854775807 := by omega
  have hac : at'.length ≤ 9223372036854775807 := by omega
  clear h4 h4' k4 k4' hk hk' ih hl hl'
  go_enter Try.func19, Try.ntmps19
  go_wp2_with fail
  generalize (w.alloc (.cells #[.int .i64 kind, .int .i64 space, .string name, .slice a at'.length ac, .string text, .slice ka kids.length kc] 36)).alloc (.cells #[.int .i64 kind, .int .i64 space, .string name, .slice a' at'.length ac', .string text, .slice ka' kids.length kc'] 36) = w1 at *
  have HX := Lib.hid hX
  have HY := Lib.hid hY
  have HB1 := Lib.hid hb
  clear hX hY hb
  go_loopw [5] (fun i wr => ∃ j : Nat, j ≤ at'.length ∧ i = .int .i64 j ∧ Below w1.heap.size w1 wr) (fun i _ => at'.length - (intOf i).toNat)
  case atStart => exact ⟨0, Nat.zero_le _, rfl, Below.refl _ _⟩
  case round =>
    obtain ⟨j, hj, rfl, hbr⟩ := hrel
    have HBr := Lib.hid hbr
    have HBw := Lib.hid (HB1.out.trans (hbr.mono HB1.out.size))
    obtain ⟨⟨_, _, _, x3, _, x5⟩, _⟩ := cells6 ((hbr.block w.heap.size (row_lt HX.out)).trans HX.out)
    obtain ⟨⟨_, _, _, y3, _, y5⟩, _⟩ := cells6 ((hbr.block (w.heap.size + 1) (row_lt HY.out)).trans HY.out)
    clear hbr
    by_cases hlt : j < at'.length
    · obtain ⟨b, o, rfl, _, p1, p2⟩ := pair_cells (HA.out.kept (Keeps.ofBelow HBw.out)).at hlt
      obtain ⟨b', o', rfl, _, q1, q2⟩ := pair_cells (HA'.out.kept (Keeps.ofBelow HBw.out)).at hlt
      have hne := neq_attr at'[j] at'[j]
      rw [decide_eq_true rfl] at hne
      go_wp2_with fail
      refine wp_region_calm (by kernel_rfl) (by kernel_rfl) ?_
      repeat
        with_reducible refine wpQuiet_step (fun K hK => ?_)
        first
          | (with_reducible apply calm_skip
             · rfl
             simp only [Act.put, List.setIfInBounds_toArray, List.set_cons_zero, List.set_cons_succ]
             refine hK _ ?_
             clear hK K)
          | (with_reducible apply calm_run
             · rfl
             · intro wq hC
               have zx3 := cell_later hC.out x3
               have zy3 := cell_later hC.out y3
               have zp1 := cell_later hC.out p1
               have zp2 := cell_later hC.out p2
               have zq1 := cell_later hC.out q1
               have zq2 := cell_later hC.out q2
               unfold Oper.quietAt
               go_simp
               first | done | with_reducible rfl | rfl
             simp only [Act.put, List.setIfInBounds_toArray, List.set_cons_zero, List.set_cons_succ]
             refine hK _ ?_
             clear hK K)
      with_reducible refine wpQuiet_nil ?_
      intro wq HQ
      have zx3 := cell_later HQ.out x3
      have zy3 := cell_later HQ.out y3
      have zp1 := cell_later HQ.out p1
      have zp2 := cell_later HQ.out p2
      have zq1 := cell_later HQ.out q1
      have zq2 := cell_later HQ.out q2
      have HB3 := Lib.hid (belowCall HBr.out HQ.out)
      go_wp2_with fail
      go_roundw
      case rel => exact ⟨j + 1, by omega, by go_num, HB3.out⟩
      case measure => simp [intOf]; omega
    · go_wp2_with fail
      obtain ⟨wo, rfl⟩ : ∃ wo : World, wo = wr := ⟨_, rfl⟩
      go_loopw [6, 7] (fun i _ wr => ∃ j : Nat, j ≤ kids.length ∧ i = .int .i64 j ∧ Below w1.heap.size w1 wr) (fun i _ _ => kids.length - (intOf i).toNat)
      case atStart => exact ⟨0, Nat.zero_le _, rfl, HBr.out⟩
      case round =>
        clear x3 x5 y3 y5 HBw
        obtain ⟨j, hj, rfl, hbr⟩ := hrel
        have HBr := Lib.hid hbr
        have HBw := Lib.hid (HB1.out.trans (hbr.mono HB1.out.size))
        obtain ⟨⟨_, _, _, _, _, x5⟩, _⟩ := cells6 ((hbr.block w.heap.size (row_lt HX.out)).trans HX.out)
        obtain ⟨⟨_, _, _, _, _, y5⟩, _⟩ := cells6 ((hbr.block (w.heap.size + 1) (row_lt HY.out)).trans HY.out)
        clear hbr
        by_cases hlt : j < kids.length
        · have hlt1 : j < css.length := by rw [HL.out]; exact hlt
          have hlt2 : j < css'.length := by rw [HL'.out]; exact hlt
          have hkw := Keeps.ofBelow (F := Non) HBw.out
          have hn1 := (HK.out j hlt1 hlt).kept hkw
          have hn2 := (HK'.out j hlt2 hlt).kept hkw
          have h6 : ∀ c ∈ css, c.length = 6 := by
            intro c hc
            obtain ⟨i, hi, rfl⟩ := List.getElem_of_mem hc
            exact (HK.out i hi (by rw [← HL.out]; exact hi)).len
          have h6' : ∀ c ∈ css', c.length = 6 := by
            intro c hc
            obtain ⟨i, hi, rfl⟩ := List.getElem_of_mem hc
            exact (HK'.out i hi (by rw [← HL'.out]; exact hi)).len
          obtain ⟨f0, f1, f2, f3, f4, f5, f6, f7, f8, f9, he⟩ := nodeC_form hn1
          obtain ⟨g0, g1, g2, g3, g4, g5, g6, g7, g8, g9, he'⟩ := nodeC_form hn2
          obtain ⟨b, o, rfl, e0, e1, e2, e3, e4, e5⟩ := kid_cells h6 (HK4.out.kept hkw) hlt1 he
          obtain ⟨b', o', rfl, d0, d1, d2, d3, d4, d5⟩ := kid_cells h6' (HK4'.out.kept hkw) hlt2 he'
          rw [he] at hn1
          rw [he'] at hn2
          have HC := Lib.hid (fun u (hu : Below wr.heap.size wr u) => HIH.out j hlt _ _ u (hn1.kept (Keeps.ofBelow hu)) (hn2.kept (Keeps.ofBelow hu)))
          unfold nodeV at HC
          clear hkw hn1 hn2 h6 h6' he he'
          go_wp2_with fail
          refine wp_region_calm (by kernel_rfl) (by kernel_rfl) ?_
          repeat
            with_reducible refine wpQuiet_step (fun K hK => ?_)
            first
              | (with_reducible apply calm_skip
                 · rfl
                 simp only [Act.put, List.setIfInBounds_toArray, List.set_cons_zero, List.set_cons_succ]
                 refine hK _ ?_
                 clear hK K)
              | (with_reducible apply calm_run
                 · rfl
                 · intro wq hC
                   have zx5 := cell_later hC.out x5
                   have zy5 := cell_later hC.out y5
                   have ze0 := cell_later hC.out e0
                   have ze1 := cell_later hC.out e1
                   have ze2 := cell_later hC.out e2
                   have ze3 := cell_later hC.out e3
                   have ze4 := cell_later hC.out e4
                   have ze5 := cell_later hC.out e5
                   have zd0 := cell_later hC.out d0
                   have zd1 := cell_later hC.out d1
                   have zd2 := cell_later hC.out d2
                   have zd3 := cell_later hC.out d3
                   have zd4 := cell_later hC.out d4
                   have zd5 := cell_later hC.out d5
                   unfold Oper.quietAt
                   go_simp
                   first | done | (go_at_call 19; refine (HC.out _ hC.out).mono ?_; rintro e wx ⟨rfl, hbx⟩; exact ⟨rfl, Lib.hid (belowCall hC.out hbx)⟩) | with_reducible rfl | rfl
                 simp only [Act.put, List.setIfInBounds_toArray, List.set_cons_zero, List.set_cons_succ]
                 refine hK _ ?_
                 clear hK K)
          with_reducible refine wpQuiet_nil ?_
          intro wq HQ
          have zx5 := cell_later HQ.out x5
          have zy5 := cell_later HQ.out y5
          have ze0 := cell_later HQ.out e0
          have ze1 := cell_later HQ.out e1
          have ze2 := cell_later HQ.out e2
          have ze3 := cell_later HQ.out e3
          have ze4 := cell_later HQ.out e4
          have ze5 := cell_later HQ.out e5
          have zd0 := cell_later HQ.out d0
          have zd1 := cell_later HQ.out d1
          have zd2 := cell_later HQ.out d2
          have zd3 := cell_later HQ.out d3
          have zd4 := cell_later HQ.out d4
          have zd5 := cell_later HQ.out d5
          have HB3 := Lib.hid (belowCall HBr.out HQ.out)
          go_wp2_with fail
          go_roundw
          case rel => exact ⟨j + 1, by omega, by go_num, HB3.out⟩
          case measure => simp [intOf]; omega
        · go_wp2_with fail
          go_ret
          exact ⟨rfl, HBw.out⟩

theorem same_any : ∀ (m : Nat) (n : NT) (w : World) (cs cs' : List Value), ntCount n ≤ m → NodeC Non w cs n → NodeC Non w cs' n → Calls Try.prog 19 #[.agg cs.toArray, .agg cs'.toArray] w fun e w' => e = .returned (.bool true) ∧ Below w.heap.size w w'
  | 0, .mk _ _ _ _ _ _, _, _, _, h, _, _ => by
    rw [ntCount] at h
    omega
  | m + 1, n, w, cs, cs', h, hn, hn' => by
    cases hn with
    | @mk kind space name a c attrs text ka kc kids css h1 h2 h3 h4 k1 k2 k3 k4 hl hk =>
      cases hn' with
      | @mk _ _ _ a' c' _ _ ka' kc' _ css' h1' h2' h3' h4' k1' k2' k3' k4' hl' hk' =>
        rw [ntCount] at h
        refine same_step kind space name text attrs a a' c c' ka ka' kc kc' kids css css' w h1 h2 h4 h4' k1 k2 k4 k4' hl hl' hk hk' ?_
        intro j hj ds ds' u hc hc'
        have := counts_mem kids kids[j] (List.getElem_mem hj)
        exact same_any m kids[j] u ds ds' (by omega) hc hc'
end Go.Proofs.Ytidbihdnginmcaa

/-
  The walk of OpenMoves: the steps are done on both trees; then kids are moved, and a node is taken out.
-/
namespace Go.Proofs.Ytidbihdnginmcaa
open Go.RowKit Mem

theorem DT.start {w0 w2 w3 : World} {B C tb rb : Nat} {T U : TreeD} (h1 : TX w0 B tb (fun _ => False) T w2) (h2 : RI w0 C rb (fun k => w0.heap.size ≤ k ∧ k < w2.heap.size) U w3) (hb : Below w2.heap.size w2 w3) : DT w0 B C tb rb T U (fun _ => False) w3 := by
  have hs := h1.below.size
  refine ⟨fun k => w2.heap.size ≤ k ∧ k < w3.heap.size, fun k hk => ⟨fun h => h, hk.2, by omega⟩, fun _ h => h.elim, ?_, ?_⟩
  · exact h1.foreign (F := fun _ => False) (Keeps.ofBelow hb) (fun _ _ h => h.elim) fun k hk => by
      rcases hk with hk | hk
      · exact ⟨.inr hk.1, hk.2⟩
      · exact hk.elim
  · refine h2.foreign (F := fun _ => False) (Keeps.refl _ _) (fun _ _ h => h.elim) fun k hk => ⟨.inl ⟨hk.1, ?_⟩, hk.2.1⟩
    rcases Nat.lt_or_ge k w2.heap.size with h | h
    · exact h
    · exact absurd ⟨h, hk.2.1⟩ hk.2.2

/-- 'append(own, xs...)' under a guard that is decided -/
theorem wpList_append_guarded {P : Program} (w : World) {ops : Array Oper} {rest : List Oper} {o : Oper} {a : Act} {Q : Exit → Act → World → Prop} (s x : Operand) (t : TypeId)
    (ho : o.op = .call { callee := .builtin .append, args := #[s, x], argTypes := #[t, t] }) (hg : Region.wanted o (yielded ops a.tmps) = true)
    (base : Nat) (e : TypeId) (i : TypeInfo) (z : Value) (size bytes : Nat) (ht : P.underlying t = some (.slice e)) (hi : P.info? e = some i) (hz : i.zero = some z)
    (hsize : i.size = size) (hby : i.bytes = bytes) (hzs : z.cells.size = size) (hsz : 0 < size)
    (v : Value) (n : Nat) (xs : List Value) (hs : a.eval s = v) (hown : w.ownsRow base e size v n xs)
    (ao : Option Addr) (m c : Nat) (news : List Value) (hx : a.eval x = .slice ao m c) (hl : news.length = m * size) (hnil : ao = none → c = 0) (hat : At w ao news) (h1 : ∀ u ∈ news, u.oneCell' = true)
    (h63 : n + m ≤ maxLen) (hbytes : (n + m) * bytes ≤ 140737488355328) (hbase : base ≤ w.heap.size)
    (h : ∀ v' w', w'.ownsRow base e size v' (n + m) (xs ++ news) → w.grownBy w' v.ownBlock → wpList P ops Q rest (a.put o.dst v') w') : wpList P ops Q (o :: rest) a w := by
  obtain ⟨dst, op, ty, pos, after, guard⟩ := o
  simp only at ho
  subst ho
  refine wpList_step fun K hK => ?_
  rw [if_pos hg]
  have := step_append_slice (P := P) (w := w) (ops := #[]) (o := ⟨dst, .call { callee := .builtin .append, args := #[s, x], argTypes := #[t, t] }, ty, pos, after, none⟩) (a := a) (K := K) (Q := Q) (E := False) rfl s x t rfl base e i z size bytes ht hi hz hsize hby hzs hsz v n xs hs hown ao m c news hx hl hnil hat h1 h63 hbytes hbase fun v' w' q1 q2 => hK _ _ (h v' w' q1 q2)
  rw [if_pos (by simp [Region.wanted])] at this
  exact this
end Go.Proofs.Ytidbihdnginmcaa

/-
  The walk of OpenMoves. (Its list of steps, its texts and attributes within the bound.)
-/
namespace Go.Proofs.Ytidbihdnginmcaa
open Go.RowKit Mem

theorem ints14_n (l r : List Int) (a a' : Option Addr) (n m c c' : Nat) (w : World) (hn : n = l.length) (hm : m = r.length) (hl : l.length ≤ maxLen) (ha : At w a (intsV l)) (ha' : At w a' (intsV r)) :
    Calls Try.prog 16 #[.slice a n c, .slice a' m c'] w fun e w' => e = .returned (.bool (decide (l = r))) ∧ ∃ n, w' = w.drewN n := by
  subst hn
  subst hm
  exact ints14_any l r a a' c c' w hl ha ha'
theorem take_facts {T : TreeD} (hw : WF T) (D : Nat) {a : Nat} (ha : a < T.nodes.length) :
    ∃ T2 e2, takeE T a = (T2, e2) ∧ readQ D T2 a = readQ D T a ∧ (if isF T2 a then parentF T2 a else -1) = -1 ∧ T2.nodes.length = T.nodes.length ∧ ((e2 = 0 ∧ 1 ≤ a) ∨ (e2 = 47 ∧ a = 0)) := by
  cases hi : isF T a
  · refine ⟨T, 47, by rw [takeE, hi]; rfl, rfl, by rw [hi]; rfl, rfl, .inr ⟨rfl, ?_⟩⟩
    simp only [isF, Bool.and_eq_false_iff, decide_eq_false_iff_not] at hi
    omega
  · have hb := isF_lt hi
    have hi2 : isF (takeF T a) a = true := by rw [isF_len (takeF_len T a), hi]
    refine ⟨takeF T a, 0, by rw [takeE, hi]; rfl, ?_, ?_, takeF_len _ _, .inl ⟨rfl, by omega⟩⟩
    · rw [readQ, readQ, hi, hi2, if_pos rfl, if_pos rfl, take_read hw D (by omega) ha]
    · rw [hi2, if_pos rfl, takeF_parent a ha, if_pos rfl]
theorem deep_three {T U V : TreeD} (h1 : WF T) (h2 : WF U) (h3 : WF V) : ∃ D, (∀ i : Nat, 1 ≤ i → i < T.nodes.length → Deep D T i) ∧ (∀ i : Nat, 1 ≤ i → i < U.nodes.length → Deep D U i) ∧ ∀ i : Nat, 1 ≤ i → i < V.nodes.length → Deep D V i := by
  obtain ⟨a, ha⟩ := deep_all h1
  obtain ⟨b, hb⟩ := deep_all h2
  obtain ⟨c, hc⟩ := deep_all h3
  exact ⟨a + b + c, fun i q1 q2 => deep_le (ha i q1 q2) (by omega), fun i q1 q2 => deep_le (hb i q1 q2) (by omega), fun i q1 q2 => deep_le (hc i q1 q2) (by omega)⟩
theorem kids_small {T : TreeD} (hl : T.nodes.length ≤ 1000000) (hw : WF T) : ∀ n : Int, (kidsQ T n).length ≤ 1000000 := by
  intro n
  unfold kidsQ
  split
  · rename_i h
    obtain ⟨i, rfl⟩ := Int.eq_ofNat_of_zero_le h.1
    have := kids_short hw i (by omega)
    omega
  · exact Nat.zero_le _

set_option maxRecDepth 100000 in
set_option maxHeartbeats 16000000 in
theorem law_OpenMoves (l : List OpD) (a : Option Addr) (c : Nat) (hl : l.length ≤ 1048576) (hs : ∀ k (h : k < l.length), l[k].s.size ≤ 1048576 ∧ l[k].attrs.length ≤ 1048576) (hc : l.length ≤ c) (hcm : c ≤ maxLen) {w : World} (ha : OpsAt w a l) (x0 : Int) (_ : (Lit.int IntKind.i64 x0).wf = true) (y0 : Int) (_ : (Lit.int IntKind.i64 y0).wf = true) :
    Calls Try.prog 3 #[.slice a l.length c, .int .i64 x0, .int .i64 y0] w fun e w' => e = .returned (.bool true) ∧ Below w.heap.size w w' := by
  rename_i wx wy
  have HA := Lib.hid ha
  have HS := Lib.hid hs
  unfold maxLen at hcm
  clear ha hs wx wy
  go_enter Try.func3, Try.ntmps3
  go_wp2_with fail
  refine (shown14_any _).mono ?_
  rintro e w1 ⟨rfl, hb1⟩
  have HB1 := Lib.hid hb1
  have HNew := Lib.hid (New_tx (ex := fun _ => False) 300 (by decide) (fun _ h => h.elim) hb1)
  clear hb1
  go_wp2_with fail
  refine HNew.out.mono ?_
  rintro e w2 ⟨tb, rfl, hT2, hb2⟩
  have HT2 := Lib.hid hT2
  have HRN := Lib.hid (rNew_ri w w2 300 (by decide) (fun k => w.heap.size ≤ k ∧ k < w2.heap.size) (fun _ h => h.2) hT2.below)
  clear hT2 hb2 HNew HB1
  go_wp2_with fail
  refine HRN.out.mono ?_
  rintro e w3 ⟨rb, rfl, hR3, hb3⟩
  have HD3 := Lib.hid (DT.start HT2.out hR3 hb3)
  clear hR3 hb3 HRN HT2
  go_wp2_with fail
  go_loopw [10] (fun i wr => ∃ k : Nat, k ≤ l.length ∧ i = .int .i64 k ∧ ∃ T, DT w (k * 1048576) (k * 1048576) tb rb T T (fun _ => False) wr) (fun i _ => l.length - (intOf i).toNat)
  case atStart => exact ⟨0, Nat.zero_le _, rfl, _, HD3.out.more (Nat.zero_le _) (Nat.zero_le _)⟩
  case round =>
    obtain ⟨k, hk, rfl, T, hT⟩ := hrel
    have HT := Lib.hid hT
    clear hT HD3
    by_cases hlt : k < l.length
    · obtain ⟨b, o, aa, ac, rfl, p1, p2, p3⟩ := HA.out.ops k hlt
      have hbw := HT.out.below
      have d0 := cell_later hbw (p3 0 _ rfl)
      have d1 := cell_later hbw (p3 1 _ rfl)
      have d2 := cell_later hbw (p3 2 _ rfl)
      have d3 := cell_later hbw (p3 3 _ rfl)
      have d4 := cell_later hbw (p3 4 _ rfl)
      have d5 := cell_later hbw (p3 5 _ rfl)
      rw [Nat.add_zero] at d0
      obtain ⟨q1, q2⟩ := HS.out k hlt
      have HP2 : AtF (fun k => w.heap.size ≤ k) wr aa (pairsV l[k].attrs) := (p2.other (fun b hb hx => by omega)).kept (Keeps.ofBelow hbw)
      have HC := Lib.hid (run_any (B' := (k + 1) * 1048576) (C' := (k + 1) * 1048576) HT.out l[k] aa ac p1 q2 HP2 (by omega) (by omega) (by omega) (by omega))
      generalize l[k] = x at *
      clear p1 p2 p3 q1 q2 HP2 hbw
      go_wp2_with fail
      refine HC.out.mono ?_
      rintro e w4 ⟨rfl, h4, _⟩
      have H4 := Lib.hid h4
      clear h4 HC
      go_wp2_with fail
      go_roundw
      case rel => exact ⟨k + 1, by omega, by go_num, _, H4.out⟩
      case measure => simp [intOf]; omega
    · obtain ⟨ex, hX, _⟩ := DI.left HT.out
      obtain ⟨g, far, hTI, _⟩ := hX
      clear HT HA HS
      generalize farW far T = T at hTI
      obtain ⟨q1, q2⟩ := hTI.tree.lt
      have htb : ∀ k, Two tb g k → k < wr.heap.size := by rintro k (rfl | rfl) <;> assumption
      have hkl : ∀ i (h : i < T.nodes.length), T.nodes[i].kids.length ≤ 2097152 := fun i hi => by
        have := kids_short hTI.wf i hi
        rw [kidsF_of T i hi] at this
        have := hTI.len
        omega
      have HTI := Lib.hid hTI
      have HTB := Lib.hid htb
      have HK1 := Lib.hid (kids_any T tb g wr x0 hTI.tree hkl)
      have HKL := Lib.hid hkl
      clear hTI htb hkl
      go_wp2_with fail
      refine HK1.out.mono ?_
      rintro e u1 ⟨va, rfl, hoa, hba⟩
      obtain ⟨aa, ca, rfl, a1, a2, a3, a4⟩ := own_atF (F := Two tb g) hoa HTB.out
      have HA1 := Lib.hid a4
      have HAN := Lib.hid a3.nil
      have HT1 := Lib.hid (HTI.out.world hba)
      have HTB1 := Lib.hid (fun k hk => Nat.lt_of_lt_of_le (HTB.out k hk) hba.size)
      have HK2 := Lib.hid (kids_any T tb g u1 y0 HT1.out.tree HKL.out)
      clear hoa hba a3 a4 HK1
      go_wp2_with fail
      refine HK2.out.mono ?_
      rintro e u2 ⟨vb, rfl, hob, hbb⟩
      obtain ⟨ab, cb, rfl, b1, b2, b3, b4⟩ := own_atF (F := Two tb g) hob HTB1.out
      have HA2 := Lib.hid (HA1.out.kept (Keeps.ofBelow hbb))
      have HB2 := Lib.hid b4
      have HBN := Lib.hid b3.nil
      have HT2 := Lib.hid (HT1.out.world hbb)
      have HTB2 := Lib.hid (fun k hk => Nat.lt_of_lt_of_le (HTB1.out k hk) hbb.size)
      obtain ⟨D, hD0, hD1, hD2⟩ := deep_three HT2.out.wf (moveE_wf HT2.out.wf x0 y0).1 (takeE_wf (moveE_wf HT2.out.wf x0 y0).1 x0).1
      have hRd := Read_any T tb g u2 y0 HT2.out.wf HT2.out.len HT2.out.att D hD0 HT2.out.tree
      obtain ⟨nb, hnb⟩ : ∃ nb : Int, nb = if isF T y0 then 0 else 47 := ⟨_, rfl⟩
      rw [← hnb] at hRd
      have HRd := Lib.hid hRd
      have HNB := Lib.hid hnb
      have HD1 := Lib.hid hD1
      have HD2 := Lib.hid hD2
      have HD0 := Lib.hid hD0
      clear hRd hnb hob hbb b3 b4 HK2 HA1 HT1 HTB1 HTI HTB hD0 hD1 hD2
      go_wp2_with fail
      refine HRd.out.mono ?_
      rintro e u3 ⟨cs, rfl, hcs, hb3⟩
      obtain ⟨f0, f1, f2, f3, f4, f5, f6, f7, f8, f9, rfl⟩ := nodeC_form hcs
      have hcx := hcs.other (G := Two tb g) (fun b _ hb => HTB2.out b hb)
      unfold nodeV at hcx ⊢
      have hb4 := (Below.refl u3.heap.size u3).alloc (Nat.le_refl _) (.cells #[.int .i64 f0, .int .i64 f1, .string f2, .slice f3 f4 f5, .string f6, .slice f7 f8 f9] 36)
      have hX := heap_alloc_new u3 (.cells #[.int .i64 f0, .int .i64 f1, .string f2, .slice f3 f4 f5, .string f6, .slice f7 f8 f9] 36)
      have hbb := belowCall hb3 hb4
      have HTB3 := Lib.hid (fun k hk => Nat.lt_of_lt_of_le (HTB2.out k hk) hb3.size)
      have HT4 := Lib.hid (HT2.out.world hbb)
      have HA4 := Lib.hid (HA2.out.kept (Keeps.ofBelow hbb))
      have HB4 := Lib.hid (HB2.out.kept (Keeps.ofBelow hbb))
      have HX4 := Lib.hid (hcx.kept (Keeps.ofBelow hb4))
      have hMv := Move_ti HT4.out x0 y0
      obtain ⟨T1, hT1⟩ : ∃ T1, T1 = (moveE T x0 y0).1 := ⟨_, rfl⟩
      obtain ⟨e1, he1⟩ : ∃ e1, e1 = (moveE T x0 y0).2 := ⟨_, rfl⟩
      rw [← hT1, ← he1] at hMv
      have hcase : (e1 = 47 ∧ T1 = T) ∨ (e1 = 0 ∧ (holdsF T x0 && holdsF T y0 && !belowF T y0 x0) = true ∧ T1 = moveF T y0 (kidsF T x0)) := by
        rw [hT1, he1]
        cases hok : (holdsF T x0 && holdsF T y0 && !belowF T y0 x0)
        · left; rw [moveE, hok]; exact ⟨rfl, rfl⟩
        · right; rw [moveE, hok]; exact ⟨rfl, rfl, rfl⟩
      have hW1 := (moveE_wf HT2.out.wf x0 y0)
      rw [← hT1] at hW1
      rw [← hT1] at HD1 HD2
      have HW1 := Lib.hid hW1
      have HMv := Lib.hid hMv
      have HCase := Lib.hid hcase
      have HW0 := Lib.hid HT2.out.wf
      clear hMv hT1 he1 hcase hW1 hcs hcx hb3 hb4 hbb HRd HA2 HB2 HT2
      go_wp2_with fail
      refine HMv.out.mono ?_
      rintro e u5 ⟨rfl, k5, h5⟩
      generalize u3.alloc (.cells #[.int .i64 f0, .int .i64 f1, .string f2, .slice f3 f4 f5, .string f6, .slice f7 f8 f9] 36) = u4 at *
      have hXn : ¬ Two tb g u3.heap.size := fun h => by have := HTB3.out _ h; omega
      have HX5 := Lib.hid ((k5.block _ (row_lt hX) hXn).trans hX)
      have HA5 := Lib.hid (HA4.out.kept k5)
      have HB5 := Lib.hid (HB4.out.kept k5)
      have HN5 := Lib.hid (HX4.out.kept k5)
      have HT5 := Lib.hid h5
      have HW5 := Lib.hid (HT4.out.below)
      have hkl5 : ∀ i (h : i < T1.nodes.length), T1.nodes[i].kids.length ≤ 2097152 := fun i hi => by
        have := kids_short h5.wf i hi
        rw [kidsF_of T1 i hi] at this
        have := h5.len
        omega
      have HK5 := Lib.hid (kids_any _ tb g u5 x0 h5.tree hkl5)
      have HKL5 := Lib.hid hkl5
      have HTB5 : Hid (∀ k, Two tb g k → k < u5.heap.size) := Lib.hid (fun k hk => Nat.lt_of_lt_of_le (HTB3.out k hk) (by have := row_lt hX; have := k5.size; omega))
      clear hX k5 h5 hkl5 HA4 HB4 HX4 hXn HMv HT4
      go_wp2_with fail
      refine HK5.out.mono ?_
      rintro e u6 ⟨vc, rfl, hoc, hb6⟩
      obtain ⟨a6, c6, rfl, _, d2, d3, d4⟩ := own_atF (F := Two tb g) hoc HTB5.out
      have HC6 := Lib.hid d4
      have HT6 := Lib.hid (HT5.out.world hb6)
      have HB6 := Lib.hid hb6
      have HK6 := Lib.hid (kids_any _ tb g u6 y0 HT6.out.tree HKL5.out)
      have HTB6 := Lib.hid (fun k hk => Nat.lt_of_lt_of_le (HTB5.out k hk) hb6.size)
      clear hoc hb6 d3 d4 HK5
      go_wp2_with fail
      refine HK6.out.mono ?_
      rintro e u7 ⟨vd, rfl, hod, hb7⟩
      obtain ⟨a7, c7, rfl, _, e2, e3, e4⟩ := own_atF (F := Two tb g) hod HTB6.out
      have HD7 := Lib.hid e4
      have HC7 := Lib.hid (HC6.out.kept (Keeps.ofBelow hb7))
      have hbb := belowCall HB6.out hb7
      have HT7 := Lib.hid (HT6.out.world hb7)
      have HA7 := Lib.hid (HA5.out.kept (Keeps.ofBelow hbb))
      have HB7 := Lib.hid (HB5.out.kept (Keeps.ofBelow hbb))
      have HN7 := Lib.hid (HN5.out.kept (Keeps.ofBelow hbb))
      have HX7 := Lib.hid ((hbb.block _ (row_lt HX5.out)).trans HX5.out)
      have HTB7 := Lib.hid (fun k hk => Nat.lt_of_lt_of_le (HTB6.out k hk) hb7.size)
      have HSA := Lib.hid (kids_small HT5.out.len HT5.out.wf)
      clear hod hb7 e3 e4 hbb HK6 HA5 HB5 HN5 HX5 HT5 HT6 HC6 HB6 HTB5 HTB6
      rcases HCase.out with ⟨rfl, rfl⟩ | ⟨rfl, hok, hT1⟩
      · go_wp2_with (first
          | (go_at_call_of 16 (Value.slice aa (kidsQ T1 x0).length ca); go_must (refine (ints14_any _ _ aa a6 ca c6 _ (by have := HSA.out x0; unfold maxLen; omega) HA7.out.at HC7.out.at).mono ?_; rintro e v1 ⟨rfl, n1, rfl⟩; have HB8 := Lib.hid (HB7.out.kept (Keeps.ofBelow (drewN_below u7 n1))); have HD8 := Lib.hid (HD7.out.kept (Keeps.ofBelow (drewN_below u7 n1)))))
          | (go_at_call 16; go_must (refine (ints14_any _ _ ab a7 cb c7 _ (by have := HSA.out y0; unfold maxLen; omega) HB8.out.at HD8.out.at).mono ?_; rintro e v2 ⟨rfl, n2, rfl⟩)))
        go_ret
        exact ⟨rfl, HT7.out.below.trans ((drewN_below u7 (n1 + n2)).mono HT7.out.below.size)⟩
      · simp only [Bool.and_eq_true, Bool.not_eq_true'] at hok
        obtain ⟨⟨h1, h2⟩, h3⟩ := hok
        have hxa := holdsF_lt HW0.out.pos h1
        have hyb := holdsF_lt HW0.out.pos h2
        obtain ⟨xa, rfl⟩ := Int.eq_ofNat_of_zero_le hxa.1
        obtain ⟨yb, rfl⟩ := Int.eq_ofNat_of_zero_le hyb.1
        have hxa' : xa < T.nodes.length := by omega
        have hyb' : yb < T.nodes.length := by omega
        have hne : xa ≠ yb := by
          rintro rfl
          rw [belowF_true .here] at h3
          cases h3
        have hMV := hT1.trans (move_once HW0.out hxa' hyb' h2 h3)
        have hlen1 : T1.nodes.length = T.nodes.length := HW1.out.2.1
        have hk1 : kidsQ T1 xa = [] := by rw [kidsQ, hlen1, if_pos (by omega), hMV, MV_kids xa hxa', if_neg (by omega), if_pos rfl]
        have hk2 : kidsQ T1 yb = kidsQ T yb ++ kidsQ T xa := by rw [kidsQ, kidsQ, kidsQ, hlen1, if_pos (by omega), if_pos (by omega), if_pos (by omega), hMV, MV_kids yb hyb', if_pos rfl]
        have HCnt : Hid (cntF T yb ≤ cntF T1 yb) := Lib.hid (by rw [hMV]; exact mv_count HW0.out)
        have hsx := HSA.out xa
        have hsy := HSA.out yb
        have HLen1 := Lib.hid hlen1
        have hs0 : (kidsQ T xa).length ≤ 1000000 ∧ (kidsQ T yb).length ≤ 1000000 := by
          rw [hk2, List.length_append] at hsy
          omega
        rw [hk1] at HC7 ⊢
        rw [hk2] at HD7 ⊢
        have hRd := Read_any T1 tb g
        clear hMV hT1 hk1 hk2 hxa hyb HSA hsx hsy hRd HCase
        generalize hA : kidsQ T xa = A at *
        generalize hB : kidsQ T yb = B at *
        obtain ⟨hs1, hs2⟩ := hs0
        have HLE := Lib.hid (show (B ++ A).length = B.length + A.length from List.length_append)
        have hb8 := (Below.refl u7.heap.size u7).alloc (Nat.le_refl _) (.cells #[] 3)
        have O8 : Hid ((u7.alloc (.cells #[] 3)).ownsRow u7.heap.size 3 1 (.slice (some ⟨u7.heap.size, 0, none⟩) 0 0) 0 []) := Lib.hid (World.ownsRow_lit u7 #[] 0 (Nat.le_refl _) (Nat.zero_le _) rfl)
        have HB8 := Lib.hid (HB7.out.kept (Keeps.ofBelow hb8)).at
        have HBb := Lib.hid hb8
        have Z8 := Lib.hid hb8.size
        obtain ⟨i0, hi, hz0, hz1, hz2⟩ := info_parts info_int
        have t0 : 0 + B.length ≤ maxLen := by unfold maxLen; omega
        have t1 : (0 + B.length) * 8 ≤ 140737488355328 := by omega
        have t2 : B.length + A.length ≤ maxLen := by unfold maxLen; omega
        have t3 : (B.length + A.length) * 8 ≤ 140737488355328 := by omega
        have N1 := Lib.hid (show (intsV B).length = B.length * 1 by rw [intsV_length, Nat.mul_one])
        have N2 := Lib.hid (show (intsV A).length = A.length * 1 by rw [intsV_length, Nat.mul_one])
        clear hA hB hb8
        go_wp2_with (first
          | (at_builtin; (refine wpList_append_guarded _ (.tmp 92) (.tmp 93) 32 rfl (by simp [go_sem]) u7.heap.size 3 i0 _ 1 8 Try.underlying32 hi hz0 hz1 hz2 rfl (by decide) _ 0 [] rfl O8.out ab B.length cb (intsV B) rfl N1.out HBN.out HB8.out (intsV_one _) t0 t1 Z8.out ?_; intro v9 u9 hown9 hgr9; simp only [Nat.zero_add, List.nil_append] at hown9; have HB9 := Lib.hid (HBb.out.grown hgr9 Z8.out (fun b hb => (O8.out.lt b hb).1)); have O9 := Lib.hid hown9; have HA9 := Lib.hid (HA7.out.kept (Keeps.ofBelow HB9.out)).at; clear hown9 hgr9))
          | (at_builtin; (refine wpList_append_guarded _ (.tmp 94) (.tmp 95) 32 rfl (by simp [go_sem]) u7.heap.size 3 i0 _ 1 8 Try.underlying32 hi hz0 hz1 hz2 rfl (by decide) _ B.length _ rfl O9.out aa A.length ca (intsV A) rfl N2.out HAN.out HA9.out (intsV_one _) t2 t3 HB9.out.size ?_; intro v10 u10 hown10 hgr10; have HB10 := Lib.hid (HB9.out.grown hgr10 HB9.out.size (fun b hb => (O9.out.lt b hb).1)); rw [← intsV_append] at hown10; obtain ⟨a10, c10, rfl, _, _, _, hat10⟩ := own_at hown10; have HAT10 := Lib.hid hat10; have HD10 := Lib.hid (HD7.out.kept (Keeps.ofBelow HB10.out)).at; clear hown10 hgr10 hat10))
          | (go_at_call 16; go_must (refine (ints14_n (B ++ A) (B ++ A) a7 a10 _ _ c7 c10 _ HLE.out.symm HLE.out.symm (by rw [HLE.out]; exact t2) HD10.out HAT10.out).mono ?_; rintro e v2 ⟨rfl, n2, rfl⟩)))
        have hb11 := belowCall HB10.out (drewN_below u10 n2)
        have HT11 := Lib.hid (HT7.out.world hb11)
        have HN11 := Lib.hid (HN7.out.kept (Keeps.ofBelow hb11))
        have HX11 := Lib.hid ((hb11.block _ (row_lt HX7.out)).trans HX7.out)
        have HTB11 := Lib.hid (fun k hk => Nat.lt_of_lt_of_le (HTB7.out k hk) hb11.size)
        have hRd := Read_any T1 tb g _ yb HT11.out.wf HT11.out.len HT11.out.att D HD1.out HT11.out.tree
        have hnb2 : (if isF T1 yb then (0 : Int) else 47) = nb := by rw [HNB.out, isF_len HLen1.out]
        rw [hnb2] at hRd
        have HRd := Lib.hid hRd
        clear hRd hnb2 hb11 HB10 HD7 HC7 HA7 HB7 HN7 HX7 HT7 HTB7 O8 HB8 HBb Z8 i0 hi hz0 hz1 hz2 t0 t1 t2 t3 N1 N2 HA9 HB9 O9 HAT10 HD10 HAN HBN a1 b1 hs1 hs2 HLE
        generalize u10.drewN n2 = u11 at *
        go_wp2_with fail
        refine HRd.out.mono ?_
        rintro e u12 ⟨ds, rfl, hds, hb12⟩
        obtain ⟨g0, g1, g2, g3, g4, g5, g6, g7, g8, g9, rfl⟩ := nodeC_form hds
        have hdx := hds.other (G := Two tb g) (fun b _ hb => HTB11.out b hb)
        unfold nodeV at hdx ⊢
        have hb13 := (Below.refl u12.heap.size u12).alloc (Nat.le_refl _) (.cells #[.int .i64 g0, .int .i64 g1, .string g2, .slice g3 g4 g5, .string g6, .slice g7 g8 g9] 36)
        have hY := heap_alloc_new u12 (.cells #[.int .i64 g0, .int .i64 g1, .string g2, .slice g3 g4 g5, .string g6, .slice g7 g8 g9] 36)
        have hbb := belowCall hb12 hb13
        have hX13 := (hbb.block _ (row_lt HX11.out)).trans HX11.out
        have HY := Lib.hid hY
        have HX13 := Lib.hid hX13
        have HT13 := Lib.hid (HT11.out.world hbb)
        have HN13 := Lib.hid (HN11.out.kept (Keeps.ofBelow hbb))
        have HM13 := Lib.hid (hdx.kept (Keeps.ofBelow hb13))
        have HTB13 := Lib.hid (fun k hk => Nat.lt_of_lt_of_le (HTB11.out k hk) hbb.size)
        clear hds hdx hb12 hb13 hY hX13 hbb HRd HX11 HN11 HT11 HTB11
        go_wp2_with fail
        generalize u12.alloc (.cells #[.int .i64 g0, .int .i64 g1, .string g2, .slice g3 g4 g5, .string g6, .slice g7 g8 g9] 36) = u13 at *
        obtain ⟨⟨z0, z1, z2, z3, z4, z5⟩, _⟩ := cells6 HX13.out
        obtain ⟨⟨y0, y1, y2, y3, y4, y5⟩, _⟩ := cells6 HY.out
        cases hf : isF T yb
        · have hnb : nb = 47 := by rw [HNB.out, hf]; rfl
          subst hnb
          clear z0 z1 z2 z3 z4 z5 y0 y1 y2 y3 y4 y5
          refine wp_region_calm (by kernel_rfl) (by kernel_rfl) ?_
          repeat
            with_reducible refine wpQuiet_step (fun K hK => ?_)
            first
              | (with_reducible apply calm_skip
                 · rfl
                 simp only [Act.put, List.setIfInBounds_toArray, List.set_cons_zero, List.set_cons_succ]
                 refine hK _ ?_
                 clear hK K)
              | (with_reducible apply calm_run
                 · rfl
                 · intro wq hC
                   unfold Oper.quietAt
                   go_simp
                   first | done | with_reducible rfl | rfl
                 simp only [Act.put, List.setIfInBounds_toArray, List.set_cons_zero, List.set_cons_succ]
                 refine hK _ ?_
                 clear hK K)
          with_reducible refine wpQuiet_nil ?_
          intro wq HQ
          have HT14 := Lib.hid (HT13.out.world HQ.out)
          have HTB14 := Lib.hid (fun k hk => Nat.lt_of_lt_of_le (HTB13.out k hk) HQ.out.size)
          have hxa1 : xa < T1.nodes.length := by rw [HLen1.out]; exact hxa'
          obtain ⟨T2, e2, hTk, hR2, hP2, hL2, hE2⟩ := take_facts HT14.out.wf D hxa1
          have hWT2 := takeE_wf HT14.out.wf (xa : Int)
          rw [hTk] at hWT2
          have HWT2 := Lib.hid hWT2
          have HD2' := HD2.out
          rw [hTk] at HD2'
          have HDD2 := Lib.hid HD2'
          have hRd := Read_any T1 tb g _ xa HT14.out.wf HT14.out.len HT14.out.att D HD1.out HT14.out.tree
          obtain ⟨nx, hnx⟩ : ∃ nx : Int, nx = if isF T1 xa then 0 else 47 := ⟨_, rfl⟩
          rw [← hnx] at hRd
          have HRd := Lib.hid hRd
          have HTk := Lib.hid hTk
          have HR2 := Lib.hid hR2
          have HP2 := Lib.hid hP2
          have HL2 := Lib.hid hL2
          have HE2 := Lib.hid hE2
          clear hRd hnx hTk hR2 hP2 hL2 hE2 hWT2 HD2' HD2 HM13 HN13 HX13 HY HT13 HTB13
          go_wp2_with fail
          refine HRd.out.mono ?_
          rintro e u15 ⟨ps, rfl, hps, hb15⟩
          obtain ⟨p0, p1, p2, p3, p4, p5, p6, p7, p8, p9, rfl⟩ := nodeC_form hps
          have hpx := hps.other (G := Two tb g) (fun b _ hb => HTB14.out b hb)
          unfold nodeV at hpx ⊢
          have hb16 := (Below.refl u15.heap.size u15).alloc (Nat.le_refl _) (.cells #[.int .i64 p0, .int .i64 p1, .string p2, .slice p3 p4 p5, .string p6, .slice p7 p8 p9] 36)
          have hX16 := heap_alloc_new u15 (.cells #[.int .i64 p0, .int .i64 p1, .string p2, .slice p3 p4 p5, .string p6, .slice p7 p8 p9] 36)
          have hbb := belowCall hb15 hb16
          have HT16 := Lib.hid (HT14.out.world hbb)
          have HN16 := Lib.hid (hpx.kept (Keeps.ofBelow hb16))
          have HTB16 := Lib.hid (fun k hk => Nat.lt_of_lt_of_le (HTB14.out k hk) hbb.size)
          have hn16 : ¬ Two tb g u15.heap.size := fun h => by have := HTB14.out _ h; have := hb15.size; omega
          have HX16 := Lib.hid hX16
          have HNo := Lib.hid hn16
          have hTkc := Take_ti HT16.out xa
          rw [HTk.out] at hTkc
          have HTkc := Lib.hid hTkc
          clear hps hpx hb15 hb16 hX16 hbb hn16 hTkc HRd HT14 HTB14
          go_wp2_with fail
          refine HTkc.out.mono ?_
          rintro e u17 ⟨rfl, k17, h17⟩
          generalize u15.alloc (.cells #[.int .i64 p0, .int .i64 p1, .string p2, .slice p3 p4 p5, .string p6, .slice p7 p8 p9] 36) = u16 at *
          have HT17 := Lib.hid h17
          have HX17 := Lib.hid ((k17.block _ (row_lt HX16.out) HNo.out).trans HX16.out)
          have HN17 := Lib.hid (HN16.out.kept k17)
          have HTB17 := Lib.hid (fun k hk => Nat.lt_of_lt_of_le (HTB16.out k hk) k17.size)
          have hRd := Read_any T2 tb g _ xa h17.wf h17.len h17.att D HDD2.out h17.tree
          obtain ⟨nx2, hnx2⟩ : ∃ nx2 : Int, nx2 = if isF T2 xa then 0 else 47 := ⟨_, rfl⟩
          rw [← hnx2, HR2.out] at hRd
          have HRd := Lib.hid hRd
          clear hRd hnx2 k17 h17 HTkc HX16 HN16 HT16 HTB16 HNo
          go_wp2_with fail
          refine HRd.out.mono ?_
          rintro e u18 ⟨qs, rfl, hqs, hb18⟩
          obtain ⟨q0, q1, q2, q3, q4, q5, q6, q7, q8, q9, rfl⟩ := nodeC_form hqs
          have hqx := hqs.other (G := Non) (fun b _ hb => hb.elim)
          unfold nodeV at hqx ⊢
          have hb19 := (Below.refl u18.heap.size u18).alloc (Nat.le_refl _) (.cells #[.int .i64 q0, .int .i64 q1, .string q2, .slice q3 q4 q5, .string q6, .slice q7 q8 q9] 36)
          have hY := heap_alloc_new u18 (.cells #[.int .i64 q0, .int .i64 q1, .string q2, .slice q3 q4 q5, .string q6, .slice q7 q8 q9] 36)
          have hbb := belowCall hb18 hb19
          have hX19 := (hbb.block _ (row_lt HX17.out)).trans HX17.out
          have HT19 := Lib.hid (HT17.out.world hbb)
          have HN19 := Lib.hid ((HN17.out.kept (Keeps.ofBelow hbb)).other (G := Non) fun b _ hb => hb.elim)
          have HM19 := Lib.hid (hqx.kept (Keeps.ofBelow hb19))
          have HY := Lib.hid hY
          have HX19 := Lib.hid hX19
          clear hqs hqx hb18 hb19 hbb hY hX19 HRd HX17 HN17 HT17
          have HSN := Lib.hid (same_any _ _ _ _ _ (Nat.le_refl _) HN19.out HM19.out)
          obtain ⟨⟨z0, z1, z2, z3, z4, z5⟩, _⟩ := cells6 HX19.out
          obtain ⟨⟨y0, y1, y2, y3, y4, y5⟩, _⟩ := cells6 HY.out
          go_wp2_with fail
          generalize u18.alloc (.cells #[.int .i64 q0, .int .i64 q1, .string q2, .slice q3 q4 q5, .string q6, .slice q7 q8 q9] 36) = u19 at *
          refine HSN.out.mono ?_
          rintro e u20 ⟨rfl, hb20⟩
          have HT20 := Lib.hid (HT19.out.world hb20)
          have HLc := Lib.hid (len_any T2 tb g u20 HT20.out.tree)
          have hPc := parent_any T2 tb g u20 xa HT20.out.tree
          rw [HP2.out] at hPc
          have HPc := Lib.hid hPc
          rw [HL2.out] at HLc
          clear hPc hb20 z0 z1 z2 z3 z4 z5 y0 y1 y2 y3 y4 y5 HSN HN19 HM19 HX19 HY HT19
          have hlenx := HT20.out.len
          rw [HL2.out] at hlenx
          rcases HE2.out with ⟨rfl, hx1⟩ | ⟨rfl, rfl⟩
          · have hle1 : (xa : Int) ≤ (T1.nodes.length : Int) - 1 := by omega
            have hle2 : (1 : Int) ≤ (xa : Int) := by omega
            go_wp2_with (first | (go_at_call 20; go_must (refine HLc.out.mono ?_; rintro e v1 ⟨rfl, rfl⟩)) | (go_at_call 21; go_must (refine HPc.out.mono ?_; rintro e v1 ⟨rfl, rfl⟩)))
            go_ret
            exact ⟨rfl, HT20.out.below⟩
          · go_wp2_with (first | (go_at_call 20; go_must (refine HLc.out.mono ?_; rintro e v1 ⟨rfl, rfl⟩)) | (go_at_call 21; go_must (refine HPc.out.mono ?_; rintro e v1 ⟨rfl, rfl⟩)))
            go_ret
            exact ⟨rfl, HT20.out.below⟩
        · have hnb : nb = 0 := by rw [HNB.out, hf]; rfl
          subst hnb
          have hyb1 := isF_lt hf
          have hR0 : readQ D T yb = readN D T yb := by rw [readQ, hf]; rfl
          have hR1 : readQ D T1 yb = readN D T1 yb := by rw [readQ, isF_len HLen1.out, hf]; rfl
          have hc0 := count_read D T HW0.out yb (by omega) hyb' (HD0.out yb (by omega) hyb')
          have hc1 := count_read D T1 HT13.out.wf yb (by omega) (by rw [HLen1.out]; exact hyb') (HD1.out yb (by omega) (by rw [HLen1.out]; exact hyb'))
          have hle0 := cntF_le T yb
          have hle1 := cntF_le T1 yb
          rw [hR0] at HN13
          rw [hR1] at HM13
          have hcc := HCnt.out
          have hlenT := HT13.out.len
          rw [HLen1.out] at hlenT hle1
          generalize cntF T yb = cx at *
          generalize cntF T1 yb = cy at *
          have HCX : Hid (∀ u, Below u13.heap.size u13 u → Calls Try.prog 17 #[.agg #[.int .i64 f0, .int .i64 f1, .string f2, .slice f3 f4 f5, .string f6, .slice f7 f8 f9]] u fun e w' => e = .returned (.int .i64 cx) ∧ Below u.heap.size u w') := Lib.hid (fun u hu => by
            have := count_any cx _ u [.int .i64 f0, .int .i64 f1, .string f2, .slice f3 f4 f5, .string f6, .slice f7 f8 f9] (by rw [hc0]; exact Nat.le_refl _) (by omega) ((HN13.out.kept (Keeps.ofBelow hu)).other fun b _ hb => hb.elim)
            rw [hc0] at this
            exact this)
          have HCY : Hid (∀ u, Below u13.heap.size u13 u → Calls Try.prog 17 #[.agg #[.int .i64 g0, .int .i64 g1, .string g2, .slice g3 g4 g5, .string g6, .slice g7 g8 g9]] u fun e w' => e = .returned (.int .i64 cy) ∧ Below u.heap.size u w') := Lib.hid (fun u hu => by
            have := count_any cy _ u [.int .i64 g0, .int .i64 g1, .string g2, .slice g3 g4 g5, .string g6, .slice g7 g8 g9] (by rw [hc1]; exact Nat.le_refl _) (by omega) ((HM13.out.kept (Keeps.ofBelow hu)).other fun b _ hb => hb.elim)
            rw [hc1] at this
            exact this)
          have hnlt : ¬ ((cy : Int) < (cx : Int)) := by omega
          clear hyb1 hR0 hR1 hc0 hc1 hle0 hle1 hcc hlenT HCnt
          refine wp_region_calm (by kernel_rfl) (by kernel_rfl) ?_
          repeat
            with_reducible refine wpQuiet_step (fun K hK => ?_)
            first
              | (with_reducible apply calm_skip
                 · rfl
                 simp only [Act.put, List.setIfInBounds_toArray, List.set_cons_zero, List.set_cons_succ]
                 refine hK _ ?_
                 clear hK K)
              | (with_reducible apply calm_run
                 · rfl
                 · intro wq hC
                   have zz0 := cell_later hC.out z0
                   have zz1 := cell_later hC.out z1
                   have zz2 := cell_later hC.out z2
                   have zz3 := cell_later hC.out z3
                   have zz4 := cell_later hC.out z4
                   have zz5 := cell_later hC.out z5
                   have zy0 := cell_later hC.out y0
                   have zy1 := cell_later hC.out y1
                   have zy2 := cell_later hC.out y2
                   have zy3 := cell_later hC.out y3
                   have zy4 := cell_later hC.out y4
                   have zy5 := cell_later hC.out y5
                   unfold Oper.quietAt
                   go_simp
                   first | done | (go_at_call_of 17 (Value.agg #[.int .i64 g0, .int .i64 g1, .string g2, .slice g3 g4 g5, .string g6, .slice g7 g8 g9]); refine (HCY.out _ hC.out).mono ?_; rintro e wx ⟨rfl, hbx⟩; exact ⟨rfl, Lib.hid (belowCall hC.out hbx)⟩) | (go_at_call 17; refine (HCX.out _ hC.out).mono ?_; rintro e wx ⟨rfl, hbx⟩; exact ⟨rfl, Lib.hid (belowCall hC.out hbx)⟩) | with_reducible rfl | rfl
                 simp only [Act.put, List.setIfInBounds_toArray, List.set_cons_zero, List.set_cons_succ]
                 refine hK _ ?_
                 clear hK K)
          with_reducible refine wpQuiet_nil ?_
          intro wq HQ
          have zz0 := cell_later HQ.out z0
          have zz1 := cell_later HQ.out z1
          have zz2 := cell_later HQ.out z2
          have zz3 := cell_later HQ.out z3
          have zz4 := cell_later HQ.out z4
          have zz5 := cell_later HQ.out z5
          have zy0 := cell_later HQ.out y0
          have zy1 := cell_later HQ.out y1
          have zy2 := cell_later HQ.out y2
          have zy3 := cell_later HQ.out y3
          have zy4 := cell_later HQ.out y4
          have zy5 := cell_later HQ.out y5
          have HT14 := Lib.hid (HT13.out.world HQ.out)
          have HTB14 := Lib.hid (fun k hk => Nat.lt_of_lt_of_le (HTB13.out k hk) HQ.out.size)
          have hxa1 : xa < T1.nodes.length := by rw [HLen1.out]; exact hxa'
          obtain ⟨T2, e2, hTk, hR2, hP2, hL2, hE2⟩ := take_facts HT14.out.wf D hxa1
          have hWT2 := takeE_wf HT14.out.wf (xa : Int)
          rw [hTk] at hWT2
          have HWT2 := Lib.hid hWT2
          have HD2' := HD2.out
          rw [hTk] at HD2'
          have HDD2 := Lib.hid HD2'
          have hRd := Read_any T1 tb g _ xa HT14.out.wf HT14.out.len HT14.out.att D HD1.out HT14.out.tree
          obtain ⟨nx, hnx⟩ : ∃ nx : Int, nx = if isF T1 xa then 0 else 47 := ⟨_, rfl⟩
          rw [← hnx] at hRd
          have HRd := Lib.hid hRd
          have HTk := Lib.hid hTk
          have HR2 := Lib.hid hR2
          have HP2 := Lib.hid hP2
          have HL2 := Lib.hid hL2
          have HE2 := Lib.hid hE2
          clear hRd hnx hTk hR2 hP2 hL2 hE2 hWT2 HD2' HD2 HM13 HN13 HX13 HY HT13 HTB13
          go_wp2_with fail
          refine HRd.out.mono ?_
          rintro e u15 ⟨ps, rfl, hps, hb15⟩
          obtain ⟨p0, p1, p2, p3, p4, p5, p6, p7, p8, p9, rfl⟩ := nodeC_form hps
          have hpx := hps.other (G := Two tb g) (fun b _ hb => HTB14.out b hb)
          unfold nodeV at hpx ⊢
          have hb16 := (Below.refl u15.heap.size u15).alloc (Nat.le_refl _) (.cells #[.int .i64 p0, .int .i64 p1, .string p2, .slice p3 p4 p5, .string p6, .slice p7 p8 p9] 36)
          have hX16 := heap_alloc_new u15 (.cells #[.int .i64 p0, .int .i64 p1, .string p2, .slice p3 p4 p5, .string p6, .slice p7 p8 p9] 36)
          have hbb := belowCall hb15 hb16
          have HT16 := Lib.hid (HT14.out.world hbb)
          have HN16 := Lib.hid (hpx.kept (Keeps.ofBelow hb16))
          have HTB16 := Lib.hid (fun k hk => Nat.lt_of_lt_of_le (HTB14.out k hk) hbb.size)
          have hn16 : ¬ Two tb g u15.heap.size := fun h => by have := HTB14.out _ h; have := hb15.size; omega
          have HX16 := Lib.hid hX16
          have HNo := Lib.hid hn16
          have hTkc := Take_ti HT16.out xa
          rw [HTk.out] at hTkc
          have HTkc := Lib.hid hTkc
          clear hps hpx hb15 hb16 hX16 hbb hn16 hTkc HRd HT14 HTB14
          go_wp2_with fail
          refine HTkc.out.mono ?_
          rintro e u17 ⟨rfl, k17, h17⟩
          generalize u15.alloc (.cells #[.int .i64 p0, .int .i64 p1, .string p2, .slice p3 p4 p5, .string p6, .slice p7 p8 p9] 36) = u16 at *
          have HT17 := Lib.hid h17
          have HX17 := Lib.hid ((k17.block _ (row_lt HX16.out) HNo.out).trans HX16.out)
          have HN17 := Lib.hid (HN16.out.kept k17)
          have HTB17 := Lib.hid (fun k hk => Nat.lt_of_lt_of_le (HTB16.out k hk) k17.size)
          have hRd := Read_any T2 tb g _ xa h17.wf h17.len h17.att D HDD2.out h17.tree
          obtain ⟨nx2, hnx2⟩ : ∃ nx2 : Int, nx2 = if isF T2 xa then 0 else 47 := ⟨_, rfl⟩
          rw [← hnx2, HR2.out] at hRd
          have HRd := Lib.hid hRd
          clear hRd hnx2 k17 h17 HTkc HX16 HN16 HT16 HTB16 HNo
          go_wp2_with fail
          refine HRd.out.mono ?_
          rintro e u18 ⟨qs, rfl, hqs, hb18⟩
          obtain ⟨q0, q1, q2, q3, q4, q5, q6, q7, q8, q9, rfl⟩ := nodeC_form hqs
          have hqx := hqs.other (G := Non) (fun b _ hb => hb.elim)
          unfold nodeV at hqx ⊢
          have hb19 := (Below.refl u18.heap.size u18).alloc (Nat.le_refl _) (.cells #[.int .i64 q0, .int .i64 q1, .string q2, .slice q3 q4 q5, .string q6, .slice q7 q8 q9] 36)
          have hY := heap_alloc_new u18 (.cells #[.int .i64 q0, .int .i64 q1, .string q2, .slice q3 q4 q5, .string q6, .slice q7 q8 q9] 36)
          have hbb := belowCall hb18 hb19
          have hX19 := (hbb.block _ (row_lt HX17.out)).trans HX17.out
          have HT19 := Lib.hid (HT17.out.world hbb)
          have HN19 := Lib.hid ((HN17.out.kept (Keeps.ofBelow hbb)).other (G := Non) fun b _ hb => hb.elim)
          have HM19 := Lib.hid (hqx.kept (Keeps.ofBelow hb19))
          have HY := Lib.hid hY
          have HX19 := Lib.hid hX19
          clear hqs hqx hb18 hb19 hbb hY hX19 HRd HX17 HN17 HT17
          have HSN := Lib.hid (same_any _ _ _ _ _ (Nat.le_refl _) HN19.out HM19.out)
          obtain ⟨⟨z0, z1, z2, z3, z4, z5⟩, _⟩ := cells6 HX19.out
          obtain ⟨⟨y0, y1, y2, y3, y4, y5⟩, _⟩ := cells6 HY.out
          go_wp2_with fail
          generalize u18.alloc (.cells #[.int .i64 q0, .int .i64 q1, .string q2, .slice q3 q4 q5, .string q6, .slice q7 q8 q9] 36) = u19 at *
          refine HSN.out.mono ?_
          rintro e u20 ⟨rfl, hb20⟩
          have HT20 := Lib.hid (HT19.out.world hb20)
          have HLc := Lib.hid (len_any T2 tb g u20 HT20.out.tree)
          have hPc := parent_any T2 tb g u20 xa HT20.out.tree
          rw [HP2.out] at hPc
          have HPc := Lib.hid hPc
          rw [HL2.out] at HLc
          clear hPc hb20 z0 z1 z2 z3 z4 z5 y0 y1 y2 y3 y4 y5 HSN HN19 HM19 HX19 HY HT19
          have hlenx := HT20.out.len
          rw [HL2.out] at hlenx
          rcases HE2.out with ⟨rfl, hx1⟩ | ⟨rfl, rfl⟩
          · have hle1 : (xa : Int) ≤ (T1.nodes.length : Int) - 1 := by omega
            have hle2 : (1 : Int) ≤ (xa : Int) := by omega
            go_wp2_with (first | (go_at_call 20; go_must (refine HLc.out.mono ?_; rintro e v1 ⟨rfl, rfl⟩)) | (go_at_call 21; go_must (refine HPc.out.mono ?_; rintro e v1 ⟨rfl, rfl⟩)))
            go_ret
            exact ⟨rfl, HT20.out.below⟩
          · go_wp2_with (first | (go_at_call 20; go_must (refine HLc.out.mono ?_; rintro e v1 ⟨rfl, rfl⟩)) | (go_at_call 21; go_must (refine HPc.out.mono ?_; rintro e v1 ⟨rfl, rfl⟩)))
            go_ret
            exact ⟨rfl, HT20.out.below⟩
end Go.Proofs.Ytidbihdnginmcaa
