import Derived.Test.YtbabcohidpcjjaaGreatZMkNz
import Derived.Test.YtbabcohidpcjjaaGreatZRS
import Derived.Test.YtbabcohidpcjjaaGreatZMkEv
import Derived.Test.YtbabcohidpcjjaaGreatDzGD
import Derived.Test.YtbabcohidpcjjaaGreatZLawC
import Derived.Test.YtbabcohidpcjjaaGreatZMem
import Derived.StillTactics
/-
  The walk of MarksReads: it returns true. (Seat 4's '.Z'.)
-/
namespace Go.Proofs.YtbabcohidpcjjaaGreat
open Go.RowKit Mem

/-- what a Next hands back -/
def nextV (o : Option MarkD × MkM) : MarkD × Int := match o.1 with
  | some x => (x, 0)
  | none => (if o.2.err ≠ 0 then noM else bareM 6, o.2.err)
theorem next_open {base : Nat} {o : Option MarkD × MkM} {r : Ending} {w' : World} (h : NextAt base o r w') : ∃ a c, r = .returned (.tuple #[markV (.slice a (nextV o).1.attrs.length c) (nextV o).1, .int .i64 (nextV o).2]) ∧ w'.ownsRow base 56 2 (.slice a (nextV o).1.attrs.length c) (nextV o).1.attrs.length (pairsV (attP (nextV o).1.attrs)) := by
  obtain ⟨ox, m⟩ := o
  cases ox with
  | some x =>
    obtain ⟨sl, h1, h2⟩ : ∃ sl, r = .returned (.tuple #[markV sl x, .int .i64 0]) ∧ w'.ownsRow base 56 2 sl x.attrs.length (pairsV (attP x.attrs)) := h
    obtain ⟨a, c, rfl, -⟩ := own_at h2
    exact ⟨a, c, h1, h2⟩
  | none =>
    have h1 : r = .returned (.tuple #[markV (.slice none 0 0) (if m.err ≠ 0 then noM else bareM 6), .int .i64 m.err]) := h
    unfold nextV
    by_cases he : m.err ≠ 0
    · simp only [if_pos he] at h1 ⊢
      exact ⟨none, 0, h1, World.ownsRow_nil _ _ _ _⟩
    · simp only [if_neg he] at h1 ⊢
      exact ⟨none, 0, h1, World.ownsRow_nil _ _ _ _⟩
theorem parseF_few8 (s : Str) (e : Bool) : (parseF s e).1.attrs.length ≤ 8 := by
  unfold parseF
  split
  · exact Nat.zero_le _
  · split
    · exact Nat.zero_le _
    · split
      · exact Nat.zero_le _
      · split
        · exact Nat.zero_le _
        · exact Nat.le_of_not_lt (by assumption)
theorem next_few (m : MkM) : (nextV (readF m)).1.attrs.length ≤ 8 := by
  obtain ⟨q, hq⟩ : ∃ q, q = readF m := ⟨_, rfl⟩
  rw [← hq]
  obtain ⟨ox, m1⟩ := q
  cases ox with
  | some x => exact readF_all (P := fun x => x.attrs.length ≤ 8) (fun _ => Nat.zero_le _) (fun _ => Nat.zero_le _) (fun s e _ => parseF_few8 s e) _ m (Nat.le_refl _) x m1 hq.symm
  | none =>
    unfold nextV
    simp only
    split <;> exact Nat.zero_le _
theorem setDoc_keep (d : DocD) (k : Int) (s : Str) : (setDoc d k s).err = d.err ∧ (setDoc d k s).text = d.text ∧ (setDoc d k s).pos = d.pos ∧ (setDoc d k s).cdata = d.cdata := by
  unfold setDoc
  split <;> exact ⟨rfl, rfl, rfl, rfl⟩
theorem setF_keep (m : MkM) (k : Int) (s : Str) : (setF m k s).err = m.err ∧ (setF m k s).closed = m.closed ∧ (setF m k s).pass = m.pass ∧ (setF m k s).buf = m.buf ∧ (setF m k s).cdata = m.cdata := by
  unfold setF
  split <;> exact ⟨rfl, rfl, rfl, rfl, rfl⟩
theorem DocR.mode' {d : DocD} {m : MkM} (h : DocR d m) (k : Int) (s : Str) : DocR (setDoc d k s) (setF m k s) := by
  have ha := set_alike d m k s
  obtain ⟨d1, d2, d3, d4⟩ := setDoc_keep d k s
  obtain ⟨m1, m2, m3, m4, m5⟩ := setF_keep m k s
  exact ⟨by rw [m1, d1]; exact h.err, fun he => by rw [m2, m3, m4, d2, d3]; exact h.rest (by rw [← d1]; exact he), ha.1.symm, fun hm => (ha.2 hm).symm, by rw [m5, d4]; exact h.cdata⟩
theorem DocR.cdata' {d : DocD} {m : MkM} (h : DocR d m) (v : Bool) : DocR { d with cdata := v } { m with cdata := v } := ⟨h.err, h.rest, h.mode, h.name, rfl⟩
theorem set_len (m : MkM) (d : DocD) (k : Int) (s : Str) : (setF m k s).name.length ≤ s.length ∧ (setDoc d k s).name.length ≤ s.length := by
  constructor
  · unfold setF
    split
    · exact Nat.le_refl _
    · exact Nat.zero_le _
  · unfold setDoc
    split
    · exact Nat.le_refl _
    · exact Nat.zero_le _
theorem doc_cdata {w : World} {b : Nat} {d : DocD} (h : Row w b (docV d)) (v : Bool) : Row (w.setCell ⟨b, 4, none⟩ (.bool v)) b (docV { d with cdata := v }) := h.set 4 (.bool v)
theorem newP_doc (t : Str) : DocR (newD t) (newP t) :=
  ⟨rfl, fun _ => ⟨rfl, rfl, by show putF false t = (strB (putF false t)).toList.drop 0; rw [toList_strB]; rfl, Nat.zero_le _⟩, rfl, fun h => absurd rfl h, rfl⟩
/-- both readers in one world -/
structure R2 (w : World) (N bp bd : Nat) (m : MkM) (d : DocD) (u : World) : Prop where
  mach : Row u bp (machV m)
  doc : Row u bd (docV d)
  rel : DocR d m
  ts : d.text.size ≤ 1000000000
  dn : d.name.length ≤ 4294967270
  mb : m.buf.length ≤ N
  mn : m.name.length ≤ 4294967270
  below : Below w.heap.size w u
  lt : w.heap.size ≤ bp ∧ w.heap.size ≤ bd ∧ bp ≠ bd
theorem R2.calm {w u u' : World} {N bp bd : Nat} {m : MkM} {d : DocD} (h : R2 w N bp bd m d u) (hb : Below u.heap.size u u') : R2 w N bp bd m d u' :=
  ⟨h.mach.below hb h.mach.lt, h.doc.below hb h.doc.lt, h.rel, h.ts, h.dn, h.mb, h.mn, belowCall h.below hb, h.lt⟩
theorem R2.drawn {w u : World} {N bp bd : Nat} {m : MkM} {d : DocD} (h : R2 w N bp bd m d u) (n : Nat) : R2 w N bp bd m d (u.drewN n) :=
  ⟨h.mach.kept rfl, h.doc.kept rfl, h.rel, h.ts, h.dn, h.mb, h.mn, below_n h.below n, h.lt⟩
set_option maxRecDepth 100000 in
set_option maxHeartbeats 16000000 in
theorem law_MarksReads (w : World) (s : ByteArray) (hs : s.size ≤ 1048576) (l : List CallD) (a0 : Option Addr) (c0 : Nat) (hln : l.length ≤ 1048576) (hnm : ∀ k (h : k < l.length), l[k].name.size ≤ 1048576) (hA : CallsAt w a0 l) (y : Int) (hm : maxAt w y) :
    Calls Tryz.prog 5 #[.string s, .slice a0 l.length c0] w fun e w' => e = .returned (.bool true) ∧ Below w.heap.size w w' := by
  have HM := Lib.hid hm
  have HA := Lib.hid hA
  have HNM := Lib.hid hnm
  clear hm hA hnm
  go_enter Tryz.func5, Tryz.ntmps5
  go_wp2_with fail
  refine (shown_any y w HM.out).mono ?_
  rintro r W1 ⟨rfl, hb⟩
  have HB1 := Lib.hid hb
  have hz1 := hb.size
  clear hb
  dsimp only
  go_wp2_with fail
  refine (NewP_any s W1 (by omega)).mono ?_
  rintro r W2 ⟨rfl, hrm, hb⟩
  have HR2 := Lib.hid hrm
  have HB2 := Lib.hid (belowCall HB1.out hb)
  have hbp := hrm.lt
  clear hb hrm
  obtain ⟨bp, hbpe⟩ : ∃ bp, bp = W1.heap.size := ⟨_, rfl⟩
  rw [← hbpe] at HR2 hbp ⊢
  have hwp : w.heap.size ≤ bp := by omega
  dsimp only
  go_wp2_with fail
  refine (dNew_any s W2 (by omega)).mono ?_
  rintro r W3 ⟨bd, rfl, hbd, hrd, hb⟩
  have hN3 : (newD s.toList).text.size ≤ 3 * s.size := by
    show (strB (putF false s.toList)).size ≤ _
    rw [strB_size, ← size_toList s]
    exact putF_len _ _
  have HS3 : Hid (R2 w (3 * s.size) bp bd (newP s.toList) (newD s.toList) W3) :=
    ⟨HR2.out.below hb hbp, hrd, newP_doc _, by omega, Nat.zero_le _, by rw [← size_toList s]; exact putF_len _ _, Nat.zero_le _, belowCall HB2.out hb, ⟨hwp, by omega, by omega⟩⟩
  clear hb hrd HR2 HB2 HB1 hbpe hN3
  dsimp only
  go_upto_block 0 with fail
  go_cut [] (fun wx => ∃ (m : MkM) (d : DocD), R2 w (3 * s.size) bp bd m d wx)
  case first =>
    as_aux_lemma =>
      go_wp2_with fail
      go_loopg [8] (l.length) (fun g v wr => ∃ (k : Nat) (m : MkM) (d : DocD), k ≤ l.length ∧ l.length - k ≤ g ∧ v = .int .i64 k ∧ R2 w (3 * s.size) bp bd m d wr)
      case atStart => exact ⟨0, _, _, Nat.zero_le _, Nat.le_refl _, rfl, HS3.out⟩
      case round =>
        obtain ⟨k, m, d, hk, hgk, rfl, hst⟩ := hrel
        have HS := Lib.hid hst
        clear hst HS3
        by_cases hkl : k < l.length
        · have hkli : (k : Int) < (l.length : Int) := by omega
          obtain ⟨ab, ao, rfl, hcell⟩ := HA.out.acts k hkl
          have hn8 := HNM.out k hkl
          generalize l[k] = cl at *
          obtain ⟨kd, cn, nm⟩ := cl
          simp only at hn8
          have k0 : wr.cell? ⟨ab, ao + k * 3, none⟩ = some (.int .i64 kd) := cell_later HS.out.below (hcell 0 _ rfl)
          have k1 : wr.cell? ⟨ab, ao + k * 3 + 1, none⟩ = some (.int .i64 cn) := cell_later HS.out.below (hcell 1 _ rfl)
          have k2 : wr.cell? ⟨ab, ao + k * 3 + 2, none⟩ = some (.string nm) := cell_later HS.out.below (hcell 2 _ rfl)
          have HCELL := Lib.hid hcell
          have hlt := HS.out.lt
          clear hcell
          by_cases h0 : kd = 0
          · subst h0
            have hrd := readF_kept' _ m (Nat.le_refl _)
            have hfw := next_few m
            have hnp := NextP_any m bp y wr HS.out.mach (max_below HM.out HS.out.below) (by have := HS.out.mb; omega) (by have := HS.out.mn; omega)
            have hnd := fun (u : World) (hu : Row u bd (docV d)) => dNext_any d m bd u hu HS.out.rel HS.out.ts HS.out.dn
            have hls := read_less _ m (Nat.le_refl _)
            obtain ⟨q, hq⟩ : ∃ q, q = readF m := ⟨_, rfl⟩
            rw [← hq] at hrd hfw hnp hls
            simp only [← hq] at hnd
            obtain ⟨xe, hxe⟩ : ∃ xe, xe = nextV q := ⟨_, rfl⟩
            rw [← hxe] at hfw
            have HXE := Lib.hid hxe
            have HLS := Lib.hid hls
            have HRD := Lib.hid hrd
            have HNP := Lib.hid hnp
            have HND := Lib.hid hnd
            clear hq hnp hnd hls hrd hxe
            obtain ⟨x, er⟩ := xe
            simp only at hfw
            go_wp2_with fail
            refine HNP.out.mono ?_
            rintro r W1 ⟨hnx, hr1, hk1⟩
            clear HNP
            have hbpl := HS.out.mach.lt
            have hbdl := HS.out.doc.lt
            have hlt := HS.out.lt
            obtain ⟨a1, c1, rfl, hown⟩ := next_open hnx
            rw [← HXE.out] at hown ⊢
            simp only at hown
            have hd1 : Row (W1.alloc (.cells #[.int .i64 x.kind, .string (strB x.name), .slice a1 x.attrs.length c1, .bool x.self, .string (strB x.text)] 46)) bd (docV d) := by
              have h := HS.out.doc.kept (hk1.block bd hbdl (by show ¬ bd = bp; omega))
              exact h.kept (heap_alloc_old _ _ h.lt)
            have HD1 := Lib.hid hd1
            have HR1 := Lib.hid (hr1.kept (heap_alloc_old W1 (.cells #[.int .i64 x.kind, .string (strB x.name), .slice a1 x.attrs.length c1, .bool x.self, .string (strB x.text)] 46) hr1.lt))
            have HO1 := Lib.hid (hown.alloc (.cells #[.int .i64 x.kind, .string (strB x.name), .slice a1 x.attrs.length c1, .bool x.self, .string (strB x.text)] 46))
            have HX1 := Lib.hid (heap_alloc_new W1 (.cells #[.int .i64 x.kind, .string (strB x.name), .slice a1 x.attrs.length c1, .bool x.self, .string (strB x.text)] 46))
            have hbw1 := below_keeps HS.out.below hlt.1 hk1
            have HB1 := Lib.hid (hbw1.alloc hbw1.size (.cells #[.int .i64 x.kind, .string (strB x.name), .slice a1 x.attrs.length c1, .bool x.self, .string (strB x.text)] 46))
            have hz1 := hk1.size
            have hX1 : W1.heap.size < (W1.alloc (.cells #[.int .i64 x.kind, .string (strB x.name), .slice a1 x.attrs.length c1, .bool x.self, .string (strB x.text)] 46)).heap.size := by simp
            clear hnx hown hd1 hr1 hk1 hbw1
            dsimp only [markV]
            go_wp2_with fail
            obtain ⟨X, hX⟩ : ∃ X, X = W1.heap.size := ⟨_, rfl⟩
            rw [← hX] at HX1 hX1
            simp only [← hX]
            have hXd : X ≠ bd := by omega
            clear hX
            generalize W1.alloc (.cells #[.int .i64 x.kind, .string (strB x.name), .slice a1 x.attrs.length c1, .bool x.self, .string (strB x.text)] 46) = W1a at *
            refine (HND.out W1a HD1.out).mono ?_
            rintro r W2 ⟨⟨d', hrel', hrow', ht', hn'⟩, hk2, hnx2⟩
            clear HND
            obtain ⟨a2, c2, rfl, hown2⟩ := next_open hnx2
            rw [← HXE.out] at hown2 ⊢
            simp only at hown2
            have HX2 := Lib.hid (only_zero HX1.out hk2 hX1 hXd)
            have hX2 := Nat.lt_of_lt_of_le hX1 hk2.size
            have HO2 := Lib.hid (own_kept HO1.out fun g hg => hk2.block g (HO1.out.lt g hg).2 (by show ¬ g = bd; have := (HO1.out.lt g hg).1; omega))
            have HS2 : Hid (R2 w (3 * s.size) bp bd q.2 d' W2) :=
              ⟨HR1.out.kept (hk2.block bp HR1.out.lt (by show ¬ bp = bd; omega)), hrow', hrel', by rw [ht']; exact HS.out.ts, hn', Nat.le_trans HRD.out.2 HS.out.mb, by rw [HRD.out.1]; exact HS.out.mn, below_keeps HB1.out hlt.2.1 hk2, hlt⟩
            have hb2 : Below W2.heap.size W2 (W2.alloc (.cells #[.int .i64 x.kind, .string (strB x.name), .slice a2 x.attrs.length c2, .bool x.self, .string (strB x.text)] 46)) := (Below.refl _ _).alloc (Nat.le_refl _) _
            have HAT1 : Hid (At (W2.alloc (.cells #[.int .i64 x.kind, .string (strB x.name), .slice a2 x.attrs.length c2, .bool x.self, .string (strB x.text)] 46)) a1 (pairsV (attP x.attrs))) := by
              obtain ⟨_, _, e, -, -, -, h⟩ := own_at HO2.out
              cases e
              exact h.below hb2
            have HAT2 : Hid (At (W2.alloc (.cells #[.int .i64 x.kind, .string (strB x.name), .slice a2 x.attrs.length c2, .bool x.self, .string (strB x.text)] 46)) a2 (pairsV (attP x.attrs))) := by
              obtain ⟨_, _, e, -, -, -, h⟩ := own_at hown2
              cases e
              exact h.below hb2
            have HS2b := Lib.hid (HS2.out.calm hb2)
            have HX2b := Lib.hid (zero_below HX2.out hb2 hX2)
            have hX2b : X < (W2.alloc (.cells #[.int .i64 x.kind, .string (strB x.name), .slice a2 x.attrs.length c2, .bool x.self, .string (strB x.text)] 46)).heap.size := Nat.lt_of_lt_of_le hX2 hb2.size
            obtain ⟨⟨x0, x1, x2, x3, x4⟩, -⟩ := markX_cells HX2.out
            clear hrel' hrow' ht' hn' hk2 hnx2 hown2 hb2 HO1 HO2 HX1 HR1 HB1 HD1
            dsimp only [markV]
            go_wp2_with fail
            refine (SameMark_any x x a1 a2 c1 c2 _ (by omega) (by omega) HAT1.out HAT2.out).mono ?_
            rintro r W4 ⟨rfl, hb⟩
            rw [decide_eq_true (rfl : x = x)]
            have HS4 := Lib.hid (HS2b.out.calm hb)
            have HX4 := Lib.hid (zero_below HX2b.out hb hX2b)
            have hee : (er != er) = false := by simp
            clear hb HAT1 HAT2 HX2b HX2 x0 x1 x2 x3 x4
            obtain ⟨⟨x0, x1, x2, x3, x4⟩, -⟩ := markX_cells HX4.out
            dsimp only
            go_wp2_with fail
            go_roundg (l.length - (k + 1))
            case measure => omega
            case rel => exact ⟨k + 1, q.2, d', by omega, Nat.le_refl _, by go_num, HS4.out⟩
          · have e0 : (kd == 0) = false := beq_eq_false_iff_ne.2 h0
            clear h0
            by_cases h1 : kd = 1
            · subst h1
              go_upto_region 17 with fail
              go_cut [] (fun wx => Row wx bp (machV (setF m cn nm.toList)) ∧ Keeps (Only bp) wr wx)
              case first =>
                refine region_end 11 (by kernel_rfl) (by kernel_rfl) rfl ?_
                simp only [List.take_succ_cons, List.take_zero]
                repeat still_step
                refine wpStill_nil ?_
                intro K hK
                go_simp
                refine (ModeP_any m bp cn nm wr.drew (row_drew HS.out.mach) (by omega)).mono ?_
                rintro r W1 ⟨rfl, hr1, hk1⟩
                have HR1 := Lib.hid hr1
                have HK1 := Lib.hid (((Keeps.refl (Only bp) wr).drew).trans hk1)
                clear hr1 hk1
                dsimp only
                refine hK _ _ ?_
                clear hK K
                simp only [List.drop_succ_cons, List.drop_zero]
                repeat still_step
                refine wpStill_nil ?_
                go_wp2_with fail
                go_meet
                exact ⟨HR1.out, HK1.out⟩
              case rest =>
                obtain ⟨hr1, hk1⟩ := hcut
                rename World => Wc
                have hbw := below_keeps HS.out.below hlt.1 hk1
                have HB1 := Lib.hid hbw
                have HR1 := Lib.hid hr1
                have HD1 := Lib.hid (HS.out.doc.kept (hk1.block bd HS.out.doc.lt (by show ¬ bd = bp; omega)))
                clear k0 k1 k2
                have k1 : Wc.cell? ⟨ab, ao + k * 3 + 1, none⟩ = some (.int .i64 cn) := cell_later hbw (HCELL.out 1 _ rfl)
                have k2 : Wc.cell? ⟨ab, ao + k * 3 + 2, none⟩ = some (.string nm) := cell_later hbw (HCELL.out 2 _ rfl)
                clear hbw hr1 hk1
                have hsl := set_len m d cn nm.toList
                rw [size_toList] at hsl
                have hsk := setF_keep m cn nm.toList
                have hdk := setDoc_keep d cn nm.toList
                have HSL := Lib.hid hsl
                have HSK := Lib.hid hsk
                have HDK := Lib.hid hdk
                clear hsl hsk hdk
                go_upto_region 18 with fail
                refine region_end 11 (by kernel_rfl) (by kernel_rfl) rfl ?_
                simp only [List.take_succ_cons, List.take_zero]
                repeat still_step
                refine wpStill_nil ?_
                intro K hK
                go_simp
                refine (Set_any d bd cn nm Wc.drew (row_drew HD1.out) (by omega)).mono ?_
                rintro r W2 ⟨rfl, hr2, hk2⟩
                have HR2 := Lib.hid hr2
                have HK2 := Lib.hid (((Keeps.refl (Only bd) Wc).drew).trans hk2)
                clear hr2 hk2
                dsimp only
                refine hK _ _ ?_
                clear hK K
                simp only [List.drop_succ_cons, List.drop_zero]
                repeat still_step
                refine wpStill_nil ?_
                go_wp2_with fail
                go_roundg (l.length - (k + 1))
                case measure => omega
                case rel =>
                  refine ⟨k + 1, setF m cn nm.toList, setDoc d cn nm.toList, by omega, Nat.le_refl _, by go_num, HR1.out.kept (HK2.out.block bp HR1.out.lt (by show ¬ bp = bd; omega)), HR2.out, HS.out.rel.mode' cn nm.toList, ?_, ?_, ?_, ?_, below_keeps HB1.out hlt.2.1 HK2.out, hlt⟩
                  · rw [HDK.out.2.1]; exact HS.out.ts
                  · have := HSL.out.2; omega
                  · rw [HSK.out.2.2.2.1]; exact HS.out.mb
                  · have := HSL.out.1; omega
            · have e1 : (kd == 1) = false := beq_eq_false_iff_ne.2 h1
              clear h1
              by_cases h2 : kd = 2
              · subst h2
                go_wp2_with fail
                obtain ⟨vb, hvb⟩ : ∃ vb, vb = (bits BinOp.and IntKind.i64 cn 1 == 1) := ⟨_, rfl⟩
                refine (CdataP_any m bp (bits BinOp.and IntKind.i64 cn 1 == 1) wr HS.out.mach).mono ?_
                rintro r W1 ⟨rfl, hr1, hk1⟩
                rw [← hvb] at hr1
                have hbw := below_keeps HS.out.below hlt.1 hk1
                have HB1 := Lib.hid hbw
                have HR1 := Lib.hid hr1
                have hd1 := HS.out.doc.kept (hk1.block bd HS.out.doc.lt (by show ¬ bd = bp; omega))
                have HD1 := Lib.hid hd1
                have HVB := Lib.hid hvb.symm
                clear k0 k1 k2 hvb
                have k1 : W1.cell? ⟨ab, ao + k * 3 + 1, none⟩ = some (.int .i64 cn) := cell_later hbw (HCELL.out 1 _ rfl)
                obtain ⟨-, -, -, -, e4, -⟩ := doc_row hd1
                have g4 := doc_free hd1 4 (by decide)
                clear hbw hr1 hk1 hd1
                dsimp only
                go_wp2_with fail
                go_roundg (l.length - (k + 1))
                case measure => omega
                case rel =>
                  rw [HVB.out]
                  refine ⟨k + 1, { m with cdata := vb }, { d with cdata := vb }, by omega, Nat.le_refl _, by go_num, HR1.out.kept (heap_setCell_other _ _ _ _ (by show bp ≠ bd; omega)), doc_cdata HD1.out vb, HS.out.rel.cdata' vb, HS.out.ts, HS.out.dn, HS.out.mb, HS.out.mn, HB1.out.setCell (by show w.heap.size ≤ bd; omega) _, hlt⟩
              · have e2 : (kd == 2) = false := beq_eq_false_iff_ne.2 h2
                clear h2
                go_wp2_with fail
                go_roundg (l.length - (k + 1))
                case measure => omega
                case rel => exact ⟨k + 1, m, d, by omega, Nat.le_refl _, by go_num, HS.out⟩
        · have hkli : ¬ (k : Int) < (l.length : Int) := by omega
          go_wp2_with fail
          go_meet
          exact ⟨m, d, HS.out⟩
  case rest =>
    obtain ⟨m0, d0, hst⟩ := hcut
    have HS0 := Lib.hid hst
    clear hst HS3
    go_wp2_with fail
    go_loopg [14] (2 * (6 * s.size + 2) + (6 * s.size + 1)) (fun g v wr => ∃ (e : Nat) (m : MkM) (d : DocD), e ≤ 2 ∧ v = .int .i64 e ∧ R2 w (3 * s.size) bp bd m d wr ∧ (2 - e) * (6 * s.size + 2) + doM m ≤ g)
    case atStart => exact ⟨0, m0, d0, by omega, rfl, HS0.out, by have h1 := doM_le m0; have h2 := HS0.out.mb; omega⟩
    case round =>
      obtain ⟨e, m, d, he, rfl, hst, hg⟩ := hrel
      have HS := Lib.hid hst
      have HG := Lib.hid hg
      clear hst hg HS0
      by_cases he2 : e < 2
      · have hei : (e : Int) < 2 := by omega
        have hrd := readF_kept' _ m (Nat.le_refl _)
        have hfw := next_few m
        have hnp := NextP_any m bp y wr HS.out.mach (max_below HM.out HS.out.below) (by have := HS.out.mb; omega) (by have := HS.out.mn; omega)
        have hnd := fun (u : World) (hu : Row u bd (docV d)) => dNext_any d m bd u hu HS.out.rel HS.out.ts HS.out.dn
        have hls := read_less _ m (Nat.le_refl _)
        obtain ⟨q, hq⟩ : ∃ q, q = readF m := ⟨_, rfl⟩
        rw [← hq] at hrd hfw hnp hls
        simp only [← hq] at hnd
        obtain ⟨xe, hxe⟩ : ∃ xe, xe = nextV q := ⟨_, rfl⟩
        rw [← hxe] at hfw
        have HXE := Lib.hid hxe
        have HLS := Lib.hid hls
        have HRD := Lib.hid hrd
        have HNP := Lib.hid hnp
        have HND := Lib.hid hnd
        clear hq hnp hnd hls hrd hxe
        obtain ⟨x, er⟩ := xe
        simp only at hfw
        go_wp2_with fail
        refine HNP.out.mono ?_
        rintro r W1 ⟨hnx, hr1, hk1⟩
        clear HNP
        have hbpl := HS.out.mach.lt
        have hbdl := HS.out.doc.lt
        have hlt := HS.out.lt
        obtain ⟨a1, c1, rfl, hown⟩ := next_open hnx
        rw [← HXE.out] at hown ⊢
        simp only at hown
        have hd1 : Row (W1.alloc (.cells #[.int .i64 x.kind, .string (strB x.name), .slice a1 x.attrs.length c1, .bool x.self, .string (strB x.text)] 46)) bd (docV d) := by
          have h := HS.out.doc.kept (hk1.block bd hbdl (by show ¬ bd = bp; omega))
          exact h.kept (heap_alloc_old _ _ h.lt)
        have HD1 := Lib.hid hd1
        have HR1 := Lib.hid (hr1.kept (heap_alloc_old W1 (.cells #[.int .i64 x.kind, .string (strB x.name), .slice a1 x.attrs.length c1, .bool x.self, .string (strB x.text)] 46) hr1.lt))
        have HO1 := Lib.hid (hown.alloc (.cells #[.int .i64 x.kind, .string (strB x.name), .slice a1 x.attrs.length c1, .bool x.self, .string (strB x.text)] 46))
        have HX1 := Lib.hid (heap_alloc_new W1 (.cells #[.int .i64 x.kind, .string (strB x.name), .slice a1 x.attrs.length c1, .bool x.self, .string (strB x.text)] 46))
        have hbw1 := below_keeps HS.out.below hlt.1 hk1
        have HB1 := Lib.hid (hbw1.alloc hbw1.size (.cells #[.int .i64 x.kind, .string (strB x.name), .slice a1 x.attrs.length c1, .bool x.self, .string (strB x.text)] 46))
        have hz1 := hk1.size
        have hX1 : W1.heap.size < (W1.alloc (.cells #[.int .i64 x.kind, .string (strB x.name), .slice a1 x.attrs.length c1, .bool x.self, .string (strB x.text)] 46)).heap.size := by simp
        clear hnx hown hd1 hr1 hk1 hbw1
        dsimp only [markV]
        go_wp2_with fail
        obtain ⟨X, hX⟩ : ∃ X, X = W1.heap.size := ⟨_, rfl⟩
        rw [← hX] at HX1 hX1
        simp only [← hX]
        have hXd : X ≠ bd := by omega
        clear hX
        generalize W1.alloc (.cells #[.int .i64 x.kind, .string (strB x.name), .slice a1 x.attrs.length c1, .bool x.self, .string (strB x.text)] 46) = W1a at *
        refine (HND.out W1a HD1.out).mono ?_
        rintro r W2 ⟨⟨d', hrel', hrow', ht', hn'⟩, hk2, hnx2⟩
        clear HND
        obtain ⟨a2, c2, rfl, hown2⟩ := next_open hnx2
        rw [← HXE.out] at hown2 ⊢
        simp only at hown2
        have HX2 := Lib.hid (only_zero HX1.out hk2 hX1 hXd)
        have hX2 := Nat.lt_of_lt_of_le hX1 hk2.size
        have HO2 := Lib.hid (own_kept HO1.out fun g hg => hk2.block g (HO1.out.lt g hg).2 (by show ¬ g = bd; have := (HO1.out.lt g hg).1; omega))
        have HS2 : Hid (R2 w (3 * s.size) bp bd q.2 d' W2) :=
          ⟨HR1.out.kept (hk2.block bp HR1.out.lt (by show ¬ bp = bd; omega)), hrow', hrel', by rw [ht']; exact HS.out.ts, hn', Nat.le_trans HRD.out.2 HS.out.mb, by rw [HRD.out.1]; exact HS.out.mn, below_keeps HB1.out hlt.2.1 hk2, hlt⟩
        have hb2 : Below W2.heap.size W2 (W2.alloc (.cells #[.int .i64 x.kind, .string (strB x.name), .slice a2 x.attrs.length c2, .bool x.self, .string (strB x.text)] 46)) := (Below.refl _ _).alloc (Nat.le_refl _) _
        have HAT1 : Hid (At (W2.alloc (.cells #[.int .i64 x.kind, .string (strB x.name), .slice a2 x.attrs.length c2, .bool x.self, .string (strB x.text)] 46)) a1 (pairsV (attP x.attrs))) := by
          obtain ⟨_, _, e, -, -, -, h⟩ := own_at HO2.out
          cases e
          exact h.below hb2
        have HAT2 : Hid (At (W2.alloc (.cells #[.int .i64 x.kind, .string (strB x.name), .slice a2 x.attrs.length c2, .bool x.self, .string (strB x.text)] 46)) a2 (pairsV (attP x.attrs))) := by
          obtain ⟨_, _, e, -, -, -, h⟩ := own_at hown2
          cases e
          exact h.below hb2
        have HS2b := Lib.hid (HS2.out.calm hb2)
        have HX2b := Lib.hid (zero_below HX2.out hb2 hX2)
        have hX2b : X < (W2.alloc (.cells #[.int .i64 x.kind, .string (strB x.name), .slice a2 x.attrs.length c2, .bool x.self, .string (strB x.text)] 46)).heap.size := Nat.lt_of_lt_of_le hX2 hb2.size
        obtain ⟨⟨x0, x1, x2, x3, x4⟩, -⟩ := markX_cells HX2.out
        clear hrel' hrow' ht' hn' hk2 hnx2 hown2 hb2 HO1 HO2 HX1 HR1 HB1 HD1
        dsimp only [markV]
        go_wp2_with fail
        refine (SameMark_any x x a1 a2 c1 c2 _ (by omega) (by omega) HAT1.out HAT2.out).mono ?_
        rintro r W4 ⟨rfl, hb⟩
        rw [decide_eq_true (rfl : x = x)]
        have HS4 := Lib.hid (HS2b.out.calm hb)
        have HX4 := Lib.hid (zero_below HX2b.out hb hX2b)
        have hee : (er != er) = false := by simp
        clear hb HAT1 HAT2 HX2b HX2 x0 x1 x2 x3 x4
        obtain ⟨⟨x0, x1, x2, x3, x4⟩, -⟩ := markX_cells HX4.out
        dsimp only
        have hmul : (2 - e) * (6 * s.size + 2) = (2 - (e + 1)) * (6 * s.size + 2) + (6 * s.size + 2) := by
          rcases (show e = 0 ∨ e = 1 by omega) with rfl | rfl <;> omega
        have hdo : doM q.2 ≤ 6 * s.size + 1 := by
          have h1 := doM_le q.2
          have h2 := HS4.out.mb
          omega
        have hgg := HG.out
        cases h1 : (er != 0)
        · cases h2 : (x.kind == 6)
          · have hless : doM q.2 < doM m := by
              have hx := HXE.out
              obtain ⟨ox, m1⟩ := q
              cases ox with
              | some z => exact HLS.out z m1 rfl
              | none =>
                exfalso
                have hx' : (x, er) = ((if m1.err ≠ 0 then noM else bareM 6), m1.err) := hx
                obtain ⟨hx1, hx2⟩ := Prod.mk.inj hx'
                have he0 : er = 0 := by simpa using h1
                rw [if_neg (by rw [← hx2, he0]; simp)] at hx1
                rw [hx1] at h2
                exact absurd h2 (by decide)
            go_wp2_with fail
            go_roundg ((2 - e) * (6 * s.size + 2) + doM q.2)
            case measure => omega
            case rel => exact ⟨e, q.2, d', he, rfl, HS4.out, Nat.le_refl _⟩
          · go_wp2_with fail
            go_roundg ((2 - (e + 1)) * (6 * s.size + 2) + doM q.2)
            case measure => omega
            case rel => exact ⟨e + 1, q.2, d', by omega, by go_num, HS4.out, Nat.le_refl _⟩
        · go_wp2_with fail
          go_roundg ((2 - (e + 1)) * (6 * s.size + 2) + doM q.2)
          case measure => omega
          case rel => exact ⟨e + 1, q.2, d', by omega, by go_num, HS4.out, Nat.le_refl _⟩
      · have hei : ¬ (e : Int) < 2 := by omega
        go_wp2_with fail
        go_ret
        exact ⟨rfl, HS.out.below⟩
end Go.Proofs.YtbabcohidpcjjaaGreat
