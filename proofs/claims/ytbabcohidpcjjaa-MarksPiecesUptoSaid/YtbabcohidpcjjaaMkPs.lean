/-
  The walk of MarksPieces: it returns true.
-/
import Derived.Test.YtbabcohidpcjjaaMkLn
import Derived.Test.YtbabcohidpcjjaaMkEv
import Derived.Test.YtbabcohidpcjjaaMkAp
namespace Go.Proofs.Ytbabcohidpcjjaa
open Go.RowKit Mem

/-! plain: pieces -/
theorem Streamed.any {t : Str} {al al' : List MarkD} {m : MkM} (h : Streamed t al m) (he : m.err ≠ 0) : Streamed t al' m :=
  ⟨⟨h.like.1, fun h0 => absurd (show m.err = 0 from h.like.1.symm.trans h0) he⟩, h.cr, h.open'⟩
theorem Streamed.err {t : Str} {al : List MarkD} {m : MkM} (h : Streamed t al m) (he : m.err ≠ 0) (r : Str) : (marksF (t ++ r)).2 = m.err := by
  obtain ⟨h1, h2⟩ := (h.feed r).1 he
  have h3 := (h2 []).close.1
  have he2 : (drainF (feedF m r)).2.err ≠ 0 := by rw [h1]; exact he
  rw [drain_err (show ({ (drainF (feedF m r)).2 with closed := true } : MkM).err ≠ 0 from he2)] at h3
  rw [← h3]
  exact h1
theorem parseF_few (s : Str) (e : Bool) : (parseF s e).1.attrs.length ≤ 8 := by
  unfold parseF
  split
  · exact Nat.zero_le _
  · split
    · exact Nat.zero_le _
    · split
      · exact Nat.zero_le _
      · split
        · exact Nat.zero_le _
        · exact Nat.le_of_not_lt (by assumption)
theorem drainF_few (m : MkM) : ∀ x ∈ (drainF m).1, x.attrs.length ≤ 8 :=
  drainF_all (fun _ => Nat.zero_le _) (fun _ => Nat.zero_le _) (fun s e _ => parseF_few s e) _ m (Nat.le_refl _)
/-- a stream that has come so far, in k pieces -/
structure Pcs (d : Str) (al : List MarkD) (m : MkM) (k : Nat) : Prop where
  st : Streamed d al m
  buf : m.buf.length ≤ 3 * d.length
  name : m.name.length ≤ 4294967280
  cnt : al.length ≤ k * 700000
  txt : tlen al ≤ k * 700000
  few : ∀ x ∈ al, x.attrs.length ≤ 8
theorem Pcs.start : Pcs [] [] zeroM 0 := ⟨Streamed.start, Nat.zero_le _, Nat.zero_le _, Nat.zero_le _, Nat.zero_le _, fun _ h => by cases h⟩
theorem Pcs.feed {d : Str} {al : List MarkD} {m : MkM} {k : Nat} (h : Pcs d al m k) (p : Str) (hd : d.length + p.length ≤ 100000) :
    ((drainF (feedF m p)).2.err ≠ 0 ∧ Pcs (d ++ p) al (drainF (feedF m p)).2 (k + 1)) ∨ ((drainF (feedF m p)).2.err = 0 ∧ Pcs (d ++ p) (al ++ (drainF (feedF m p)).1) (drainF (feedF m p)).2 (k + 1)) := by
  obtain ⟨f1, f2⟩ := h.st.feed p
  have hpl := putF_len p m.cr
  have hfb : (feedF m p).buf.length ≤ 3 * (d.length + p.length) := by
    have := h.buf
    unfold feedF
    split
    · show (m.buf ++ putF m.cr p).length ≤ _
      rw [List.length_append]; omega
    · omega
  have hfn : (feedF m p).name.length ≤ 4294967280 := by
    unfold feedF
    split
    · exact h.name
    · exact h.name
  have hr := drainF_room _ (feedF m p) (Nat.le_refl _) hfn
  have hdo := doM_le (feedF m p)
  have hst : ∀ al', Streamed (d ++ p) al' (drainF (feedF m p)).2 → al'.length ≤ (k + 1) * 700000 → tlen al' ≤ (k + 1) * 700000 → (∀ x ∈ al', x.attrs.length ≤ 8) → Pcs (d ++ p) al' (drainF (feedF m p)).2 (k + 1) :=
    fun al' h1 h2 h3 h4 => ⟨h1, by rw [List.length_append]; omega, hr.2.2, h2, h3, h4⟩
  have hc := h.cnt
  have ht := h.txt
  have c1 : al.length ≤ (k + 1) * 700000 := Nat.le_trans hc (Nat.mul_le_mul_right 700000 (Nat.le_succ k))
  have c2 : tlen al ≤ (k + 1) * 700000 := Nat.le_trans ht (Nat.mul_le_mul_right 700000 (Nat.le_succ k))
  by_cases he : m.err = 0
  · by_cases he2 : (drainF (feedF m p)).2.err = 0
    · refine .inr ⟨he2, hst _ (f2 he) ?_ ?_ ?_⟩
      · rw [List.length_append]; omega
      · rw [tlen_append]; omega
      · intro x hx
        rcases List.mem_append.1 hx with hx | hx
        · exact h.few x hx
        · exact drainF_few _ x hx
    · exact .inl ⟨he2, hst al ((f2 he).any he2) c1 c2 h.few⟩
  · have := f1 he
    exact .inl ⟨by rw [this.1]; exact he, hst al (this.2 _) c1 c2 h.few⟩
theorem own_at2 {w : World} {base : Nat} {e : TypeId} {size n c : Nat} {a : Option Addr} {xs : List Value} (h : w.ownsRow base e size (.slice a n c) n xs) : (a = none → c = 0) ∧ At w a xs := by
  obtain ⟨ao, co, hv, -, -, h0, hat⟩ := own_at h
  cases hv
  exact ⟨h0, hat⟩
/-- what a feed has told, as a slice whatever came of it -/
theorem drain_own {base : Nat} {o : List MarkD × MkM} {r : Ending} {w' : World} (h : DrainAt base o r w') :
    ∃ ao co L, r = .returned (.tuple #[.slice ao L.length co, .int .i64 o.2.err]) ∧ (o.2.err = 0 → L.map (·.1) = o.1) ∧ (o.2.err ≠ 0 → L = []) ∧ w'.ownsRow base 36 5 (.slice ao L.length co) L.length (marksV L) ∧ AtsOwn base L w' := by
  rcases h with ⟨h1, rfl⟩ | ⟨h1, v, L, rfl, h2, h3, h4⟩
  · exact ⟨none, 0, [], rfl, fun h => absurd h h1, fun _ => rfl, World.ownsRow_nil _ _ _ _, fun p hp => by cases hp⟩
  · obtain ⟨ao, co, hv, -⟩ := own_at h3
    subst hv
    exact ⟨ao, co, L, by rw [h1], fun _ => h2, fun h => absurd h1 h, h3, h4⟩
theorem marks_own {base : Nat} {o : List MarkD × Int} {r : Ending} {w' : World} (h : MarksAt base o r w') :
    ∃ ao co L, r = .returned (.tuple #[.slice ao L.length co, .int .i64 o.2]) ∧ L.map (·.1) = o.1 ∧ w'.ownsRow base 36 5 (.slice ao L.length co) L.length (marksV L) ∧ AtsOwn base L w' := by
  rcases h with ⟨h1, h2, rfl⟩ | ⟨h1, v, L, rfl, h2, h3, h4⟩
  · exact ⟨none, 0, [], rfl, by rw [h2]; rfl, World.ownsRow_nil _ _ _ _, fun p hp => by cases hp⟩
  · obtain ⟨ao, co, hv, -⟩ := own_at h3
    subst hv
    exact ⟨ao, co, L, by rw [h1], h2, h3, h4⟩
theorem cell_keeps {u v : World} {B b o : Nat} {x : Value} (k : Keeps (Only B) u v) (hb : b < u.heap.size) (hne : b ≠ B) (h : u.cell? ⟨b, o, none⟩ = some x) : v.cell? ⟨b, o, none⟩ = some x := by
  unfold World.cell? at h ⊢
  rw [k.block b hb (by show ¬ b = B; exact hne)]
  exact h
theorem at_keeps {u v : World} {B : Nat} {a : Option Addr} {xs : List Value} (k : Keeps (Only B) u v) (h : At u a xs) (hB : ∀ x, a = some x → x.block ≠ B) : At v a xs := fun j x hj => by
  obtain ⟨b, o, e, hc⟩ := h j x hj
  exact ⟨b, o, e, cell_keeps k (lt_of_cell hc) (by have := hB _ e; exact this) hc⟩
set_option maxRecDepth 100000 in
set_option maxHeartbeats 4000000 in
theorem law_MarksPieces (s : ByteArray) (_ : s.size ≤ 1048576) (l : List Int) (a : Option Addr) (c : Nat) (_ : l.length ≤ c) (_ : c ≤ maxLen) (w : World) (ha : At w a (intsV l)) (_ : l.length ≤ 1048576) (y : Int) (hm : maxAt w y) :
    Calls Try.prog 3 #[.string s, .slice a l.length c] w fun e w' => e = .returned (.bool true) ∧ Below w.heap.size w w' := by
  have HM := Lib.hid hm
  have HA := Lib.hid ha
  obtain ⟨i0', hi, hi0, hi1', hi2⟩ := info_parts info_mark
  clear hm ha
  go_enter Try.func3, Try.ntmps3
  go_wp2_with fail
  refine (shown_any y w HM.out).mono ?_
  rintro r W1 ⟨rfl, hb⟩
  have HM1 := Lib.hid (max_below HM.out hb)
  have HB1 := Lib.hid hb
  have hz1 := hb.size
  clear hb HM
  dsimp only
  go_wp2_with fail
  refine (Open_any W1).mono ?_
  rintro r W2 ⟨rfl, r2, hb⟩
  obtain ⟨B, hB⟩ : ∃ B, B = W1.heap.size := ⟨_, rfl⟩
  rw [← hB] at r2 ⊢
  have hBw : w.heap.size ≤ B := by rw [hB]; exact hz1
  have HM2 := Lib.hid (max_below HM1.out hb)
  have HB2 := Lib.hid (belowCall HB1.out hb)
  have HR2 := Lib.hid r2
  have hB2 := r2.lt
  clear r2 hb hB hz1 HB1 HM1
  dsimp only
  by_cases h100 : 100000 < s.size
  · have h100i : (100000 : Int) < (s.size : Int) := by omega
    go_wp2_with fail
    go_ret
    exact ⟨rfl, HB2.out⟩
  · have h100i : ¬ (100000 : Int) < (s.size : Int) := by omega
    go_wp2_with fail
    refine (Marks_all s y W2 HM2.out (by omega)).mono ?_
    rintro r W3 ⟨hr, hb⟩
    have hff := (marksF_ok s.toList).2.1
    have hfl := marksF_len s.toList
    rw [size_toList] at hfl
    obtain ⟨p, hp⟩ : ∃ p, p = marksF s.toList := ⟨_, rfl⟩
    rw [← hp] at hr hff hfl
    obtain ⟨wo, wc, LW, hra, hlw, hatw, hatsw⟩ := marks_own hr
    have HP := Lib.hid hp
    have HLW := Lib.hid hlw
    have HATW := Lib.hid hatw
    have HATSW := Lib.hid hatsw
    have HFF := Lib.hid hff
    have HM3 := Lib.hid (max_below HM2.out hb)
    have HB3 := Lib.hid (belowCall HB2.out hb)
    have HR3 := Lib.hid (HR2.out.kept (hb.block B hB2))
    have HA3 := Lib.hid (HA.out.below HB3.out)
    have hz3 := hb.size
    have hB3 : B < W3.heap.size := by omega
    have hlw2 : LW.length ≤ 1000000 := by
      have := congrArg List.length HLW.out
      rw [List.length_map] at this
      omega
    clear hr hff hfl hp hlw hatw hatsw hb HM2 HB2 HR2
    subst hra
    dsimp only
    go_wp2_with fail
    go_loopw [9, 10, 11] (fun v rv iv wr => ∃ (k : Nat) (d : Str) (R : ByteArray) (AL : MS) (M : MkM), k ≤ 3000 ∧ k ≤ l.length ∧ iv = .int .i64 k ∧ rv = .string R ∧ d ++ R.toList = s.toList ∧ Pcs d (AL.map (·.1)) M k ∧ wr.ownsRow W3.heap.size 36 5 v AL.length (marksV AL) ∧ AtsOwn W3.heap.size AL wr ∧ Row wr B (machV M) ∧ Keeps (Only B) W3 wr) (fun _ _ i _ => l.length - (intOf i).toNat)
    case atStart => exact ⟨0, [], s, [], zeroM, Nat.zero_le _, Nat.zero_le _, rfl, rfl, rfl, Pcs.start, World.ownsRow_nil _ _ _ _, (fun p hp => by cases hp), HR3.out, Keeps.refl _ _⟩
    case round =>
      obtain ⟨k, d, R, AL, M, hk3, hkl, rfl, rfl, hdr, hpc, ho, hao, hrr, hkk⟩ := hrel
      have HDR := Lib.hid hdr
      have HPC := Lib.hid hpc
      have HO := Lib.hid ho
      have HAO := Lib.hid hao
      have HRr := Lib.hid hrr
      have HK := Lib.hid hkk
      have hlen : d.length + R.size = s.size := by rw [← size_toList, ← List.length_append, hdr, size_toList]
      have hbuf := hpc.buf
      have hname := hpc.name
      have hzr := hkk.size
      have HMr := Lib.hid (max_keeps HM3.out HR3.out hkk)
      clear hdr hpc ho hao hrr hkk
      by_cases hgo : k < l.length ∧ 0 < R.size ∧ k < 3000
      · obtain ⟨g1, g2, g3⟩ := hgo
        obtain ⟨b', o', rfl, hbw', c0⟩ := int_cells HA.out g1
        have c1 := cell_keeps HK.out (Nat.lt_of_lt_of_le hbw' HB3.out.size) (by omega) (cell_later HB3.out c0)
        obtain ⟨z, hz15, hze⟩ := bits_le (l[k]) 15 15 (by decide) (by decide)
        obtain ⟨n, hn⟩ : ∃ n : Nat, n = min z R.size := ⟨_, rfl⟩
        have hmin : min (z : Int) (R.size : Int) = (n : Int) := by omega
        have hnR : n ≤ R.size := by omega
        have hnRi : (n : Int) ≤ (R.size : Int) := by omega
        clear hn hz15
        have hes : (R.extract 0 n).size ≤ R.size := by rw [ByteArray.size_extract]; omega
        have hel : (R.extract 0 n).toList = R.toList.take n := by rw [ext_list, List.drop_zero, Nat.sub_zero]
        have her : (R.extract n R.size).toList = R.toList.drop n := by rw [ext_list, List.take_of_length_le (by rw [List.length_drop, size_toList]; omega)]
        have hF := Feed_any M B y (R.extract 0 n) wr HRr.out HMr.out (by omega) hname
        have hPf := HPC.out.feed (R.toList.take n) (by rw [List.length_take, size_toList]; omega)
        rw [hel] at hF
        obtain ⟨o, ho⟩ : ∃ o, o = drainF (feedF M (R.toList.take n)) := ⟨_, rfl⟩
        rw [← ho] at hF hPf
        have HF := Lib.hid hF
        have HPF := Lib.hid hPf
        have HER := Lib.hid her
        clear hF hPf ho hel hes her
        go_wp2_with fail
        refine HF.out.mono ?_
        rintro r W5 ⟨hd, r5, k5⟩
        obtain ⟨fo, fc, LF, rfl, hfm, hfe, hfo, hfats⟩ := drain_own hd
        obtain ⟨hf0, hfat⟩ := own_at2 hfo
        have HK5 := Lib.hid (HK.out.trans k5)
        have HR5 := Lib.hid r5
        have HO5 := Lib.hid (own_kept (w' := W5) HO.out fun g hg => k5.block g (HO.out.lt g hg).2 (by show ¬ g = B; have := (HO.out.lt g hg).1; omega))
        have HA5 := Lib.hid (HAO.out.keeps hB3 k5)
        have HFA := Lib.hid hfat
        have HFL := Lib.hid (hfats.base hzr)
        have HF1 := Lib.hid (marksV_one hfats)
        have HZ5 := Lib.hid (Nat.le_trans hzr k5.size)
        have hpc' : Pcs (d ++ R.toList.take n) ((AL ++ LF).map (·.1)) o.2 (k + 1) ∧ (o.2.err = 0 ∨ (o.2.err ≠ 0 ∧ o.2.err = p.2)) := by
          rw [List.map_append]
          rcases HPF.out with ⟨q1, q2⟩ | ⟨q1, q2⟩
          · rw [hfe q1, List.map_nil, List.append_nil]
            refine ⟨q2, .inr ⟨q1, ?_⟩⟩
            have := q2.st.err q1 (R.toList.drop n)
            rw [List.append_assoc, List.take_append_drop, HDR.out, ← HP.out] at this
            exact this.symm
          · rw [hfm q1]
            exact ⟨q2, .inl q1⟩
        obtain ⟨hpc', herr⟩ := hpc'
        have hcnt := hpc'.cnt
        rw [List.length_map, List.length_append] at hcnt
        have hcnt2 : (k + 1) * 700000 ≤ 2100000000 := by omega
        have hb3 : AL.length + LF.length ≤ maxLen := by unfold maxLen; omega
        have hb4 : (AL.length + LF.length) * 72 ≤ 140737488355328 := by omega
        have HPC' := Lib.hid hpc'
        clear hd k5 r5 hfm hfe hfo hfat hfats hpc' hcnt hcnt2 HF HPF
        dsimp only
        rcases herr with he | ⟨he, hep⟩
        · go_wp2_with (at_builtin; go_must (refine wpList_append_slice _ rfl _ _ 26 rfl W3.heap.size 36 i0' _ 5 72 Try.underlying26 hi hi0 hi1' hi2 rfl (by decide) _ AL.length _ rfl HO5.out fo LF.length fc (marksV LF) rfl (marksV_length LF) hf0 HFA.out HF1.out hb3 hb4 HZ5.out ?_; intro v6 w6 hown6 hgr6; rw [← marksV_append, ← List.length_append] at hown6; have HO6 := Lib.hid hown6; have HG6 := Lib.hid hgr6; clear hown6 hgr6))
          go_roundw
          case rel => exact ⟨k + 1, d ++ R.toList.take n, R.extract n R.size, AL ++ LF, o.2, by omega, by omega, by go_num, rfl, by rw [HER.out, List.append_assoc, List.take_append_drop, HDR.out], HPC'.out, HO6.out, fun x hx => (List.mem_append.1 hx).elim (HA5.out.grown HO5.out HG6.out x) (HFL.out.grown HO5.out HG6.out x), HR5.out.kept (HG6.out.block B HR5.out.lt fun e => absurd (HO5.out.lt B e.symm).1 (Nat.not_le_of_lt hB3)), keeps_grow HK5.out HG6.out (fun k hk => (HO5.out.lt k hk).1)⟩
          case measure => simp [intOf]; omega
        · have he1 : (p.2 != 0) = true := by rw [← hep]; simpa using he
          rw [hep]
          clear he hep
          go_wp2_with (at_builtin; go_must (refine wpList_append_slice _ rfl _ _ 26 rfl W3.heap.size 36 i0' _ 5 72 Try.underlying26 hi hi0 hi1' hi2 rfl (by decide) _ AL.length _ rfl HO5.out fo LF.length fc (marksV LF) rfl (marksV_length LF) hf0 HFA.out HF1.out hb3 hb4 HZ5.out ?_; intro v6 w6 hown6 hgr6; rw [← marksV_append, ← List.length_append] at hown6; have HO6 := Lib.hid hown6; have HG6 := Lib.hid hgr6; clear hown6 hgr6))
          go_roundw
          case rel => exact ⟨k + 1, d ++ R.toList.take n, R.extract n R.size, AL ++ LF, o.2, by omega, by omega, by go_num, rfl, by rw [HER.out, List.append_assoc, List.take_append_drop, HDR.out], HPC'.out, HO6.out, fun x hx => (List.mem_append.1 hx).elim (HA5.out.grown HO5.out HG6.out x) (HFL.out.grown HO5.out HG6.out x), HR5.out.kept (HG6.out.block B HR5.out.lt fun e => absurd (HO5.out.lt B e.symm).1 (Nat.not_le_of_lt hB3)), keeps_grow HK5.out HG6.out (fun k hk => (HO5.out.lt k hk).1)⟩
          case measure => simp [intOf]; omega
      · have hexit : (¬ (k : Int) < (l.length : Int)) ∨ ((k : Int) < (l.length : Int) ∧ ¬ (0 : Int) < (R.size : Int)) ∨ ((k : Int) < (l.length : Int) ∧ (0 : Int) < (R.size : Int) ∧ ¬ (k : Int) < 3000) := by omega
        clear hgo
        rcases hexit with x1 | ⟨x1, x2⟩ | ⟨x1, x2, x3⟩
        · have hF := Feed_any M B y R wr HRr.out HMr.out (by omega) hname
          have hPf := HPC.out.feed R.toList (by rw [size_toList]; omega)
          rw [HDR.out] at hPf
          obtain ⟨o, ho⟩ : ∃ o, o = drainF (feedF M R.toList) := ⟨_, rfl⟩
          rw [← ho] at hF hPf
          have HF := Lib.hid hF
          have HPF := Lib.hid hPf
          clear hF hPf ho
          go_wp2_with fail
          refine HF.out.mono ?_
          rintro r W5 ⟨hd, r5, k5⟩
          obtain ⟨fo, fc, LF, rfl, hfm, hfe, hfo, hfats⟩ := drain_own hd
          have HM5 := Lib.hid (max_keeps HMr.out HRr.out k5)
          have HK5 := Lib.hid (HK.out.trans k5)
          have HR5 := Lib.hid r5
          have HO5 := Lib.hid (own_kept (w' := W5) HO.out fun g hg => k5.block g (HO.out.lt g hg).2 (by show ¬ g = B; have := (HO.out.lt g hg).1; omega))
          have HA5 := Lib.hid (HAO.out.keeps hB3 k5)
          have HFO := Lib.hid hfo
          have HFT := Lib.hid hfats
          have hz5 := k5.size
          have hALb : Hid (∀ g, (Value.ownBlock u9) = some g → W3.heap.size ≤ g ∧ g < wr.heap.size) := fun g hg => HO.out.lt g hg
          have hpc' : Pcs s.toList ((AL ++ LF).map (·.1)) o.2 (k + 1) ∧ (o.2.err = 0 ∨ (o.2.err ≠ 0 ∧ o.2.err = p.2)) := by
            rw [List.map_append]
            rcases HPF.out with ⟨q1, q2⟩ | ⟨q1, q2⟩
            · rw [hfe q1, List.map_nil, List.append_nil]
              refine ⟨q2, .inr ⟨q1, ?_⟩⟩
              have := q2.st.err q1 []
              rw [List.append_nil, ← HP.out] at this
              exact this.symm
            · rw [hfm q1]
              exact ⟨q2, .inl q1⟩
          obtain ⟨hpc', herr⟩ := hpc'
          have hbo := hpc'.buf
          rw [size_toList] at hbo
          have hno := hpc'.name
          have hcnt := hpc'.cnt
          have htxt := hpc'.txt
          have hcl := hpc'.st.close
          rw [← HP.out] at hcl
          have hC := Close_any o.2 B y W5 HR5.out HM5.out (by omega) hno
          have hqr := drainF_room _ { o.2 with closed := true } (Nat.le_refl _) hno
          have hqd := doM_le { o.2 with closed := true }
          have hqf := drainF_few { o.2 with closed := true }
          obtain ⟨q, hq⟩ : ∃ q, q = drainF { o.2 with closed := true } := ⟨_, rfl⟩
          rw [← hq] at hC hcl hqr hqf
          have HQF := Lib.hid hqf
          have hqn : q.1.length ≤ 700000 ∧ tlen q.1 ≤ 700000 := by
            have hbb : ({ o.2 with closed := true } : MkM).buf.length = o.2.buf.length := rfl
            rw [hbb] at hqd hqr
            constructor <;> omega
          have HQN := Lib.hid hqn
          have HFEW := Lib.hid hpc'.few
          have HCL := Lib.hid hcl
          have HC := Lib.hid hC
          have HERR := Lib.hid herr
          have HFM := Lib.hid hfm
          have hcnt2 : (k + 1) * 700000 ≤ 2100700000 := by omega
          clear hd k5 r5 hfm hfe hfo hfats hpc' HF HPF hbo hno hC hqr hqd hqn hcl hq herr hqf
          dsimp only
          go_wp2_with fail
          refine HC.out.mono ?_
          rintro r W6 ⟨hd, r6, k6⟩
          obtain ⟨co', cc', LC, rfl, hcm, -, hco, hcats⟩ := drain_own hd
          have HB6 := Lib.hid (below_keeps HB3.out hBw (HK5.out.trans k6))
          rw [HCL.out.1]
          rw [HCL.out.1] at hcm
          by_cases hp0 : p.2 = 0
          · obtain ⟨e1, e2⟩ := HCL.out.2 hp0
            have HO6 := Lib.hid (own_kept (w' := W6) HO5.out fun g hg => k6.block g (HO5.out.lt g hg).2 (by show ¬ g = B; have := (HO5.out.lt g hg).1; omega))
            have HA6 := Lib.hid (HA5.out.keeps hB3 k6)
            have HFO6 := Lib.hid (own_kept (w' := W6) HFO.out fun g hg => k6.block g (HFO.out.lt g hg).2 (by show ¬ g = B; have := (HFO.out.lt g hg).1; omega))
            have HFT6 := Lib.hid (HFT.out.keeps (show B < wr.heap.size by omega) k6)
            have HCO := Lib.hid hco
            have HCT := Lib.hid hcats
            have hk36 := HK5.out.trans k6
            have HW6 := Lib.hid (own_kept (w' := W6) HATW.out fun g hg => hk36.block g (HATW.out.lt g hg).2 (by show ¬ g = B; have := (HATW.out.lt g hg).1; omega))
            have HWT6 := Lib.hid (HATSW.out.keeps hB2 hk36)
            have HWb : Hid (∀ g, (Value.slice wo LW.length wc).ownBlock = some g → g < W3.heap.size) := fun g hg => (HATW.out.lt g hg).2
            have hz6 := k6.size
            have hz36 : W3.heap.size ≤ W6.heap.size := by omega
            have hzw6 : w.heap.size ≤ W3.heap.size := by omega
            obtain ⟨hf0, hfat⟩ := own_at2 HFO6.out
            obtain ⟨hc0, -⟩ := own_at2 hco
            have HFA6 := Lib.hid hfat
            have HF1 := Lib.hid (marksV_one HFT6.out)
            have HC1 := Lib.hid (marksV_one hcats)
            have hLC := hcm hp0
            have hcq : LC.length ≤ 700000 := by have := congrArg List.length hLC; rw [List.length_map] at this; have := HQN.out.1; omega
            have hcn : (AL ++ LF).length ≤ 2100700000 := by rw [List.length_map] at hcnt; omega
            have hcn' : AL.length + LF.length ≤ 2100700000 := by rw [List.length_append] at hcn; exact hcn
            have hb3 : AL.length + LF.length ≤ maxLen := by unfold maxLen; omega
            have hb4 : (AL.length + LF.length) * 72 ≤ 140737488355328 := by omega
            have hb5 : (AL ++ LF).length + LC.length ≤ maxLen := by unfold maxLen; omega
            have hb6 : ((AL ++ LF).length + LC.length) * 72 ≤ 140737488355328 := by omega
            have hmap : (AL ++ LF ++ LC).map (·.1) = (AL ++ LF).map (·.1) ++ q.1 := by rw [List.map_append (l₂ := LC), hLC]
            have htl : tlen ((AL ++ LF ++ LC).map (·.1)) ≤ 1099511627776 := by rw [hmap, tlen_append]; have := HQN.out.2; omega
            have hlm : (AL ++ LF ++ LC).length ≤ 10000000000 := by rw [List.length_append (bs := LC)]; omega
            have HJ : Hid (joinF [] ((AL ++ LF ++ LC).map (·.1)) = p.1) := by show _ = _; rw [hmap]; exact e2
            have HFEWC : Hid (∀ x ∈ LC, x.1.attrs.length ≤ 8) := fun x hx => HQF.out x.1 (by rw [← hLC]; exact List.mem_map_of_mem hx)
            have HFEWA : Hid (∀ x ∈ AL ++ LF, x.1.attrs.length ≤ 8) := fun x hx => HFEW.out x.1 (List.mem_map_of_mem hx)
            have HZZ : Hid (wr.heap.size ≤ W5.heap.size ∧ W3.heap.size ≤ W6.heap.size ∧ w.heap.size ≤ W3.heap.size) := ⟨hz5, hz36, hzw6⟩
            have HTL := Lib.hid htl
            have HLM := Lib.hid hlm
            rw [hp0]
            rcases HERR.out with he | ⟨he, -⟩
            case inr => exact absurd e1 he
            rw [he]
            clear hd k6 r6 hcm hco hcats hk36 hfat hLC hmap htl hlm e1 e2 he hcn hcn' hcq hcnt htxt hcnt2
            dsimp only
            go_wp2_with (first
              | (at_builtin; (refine wpList_append_guarded _ (.tmp 113) (.tmp 114) 26 rfl (by simp [go_sem]) W3.heap.size 36 i0' _ 5 72 Try.underlying26 hi hi0 hi1' hi2 rfl (by decide) _ AL.length _ rfl HO6.out fo LF.length fc (marksV LF) rfl (marksV_length LF) hf0 HFA6.out HF1.out hb3 hb4 hz36 ?_; intro v7 w7 hown7 hgr7; rw [← marksV_append, ← List.length_append] at hown7; have HO7 := Lib.hid hown7; have HA7 := Lib.hid (HA6.out.grown HO6.out hgr7); have HFT7 := Lib.hid (HFT6.out.grown HO6.out hgr7); have HCT7 := Lib.hid (HCT.out.grown HO6.out hgr7); have HCO7 := Lib.hid (own_kept (w' := w7) HCO.out fun g hg => hgr7.block g (HCO.out.lt g hg).2 fun e => by have h1 := (hALb.out g e.symm).2; have h2 := (HCO.out.lt g hg).1; have h3 := HZZ.out.1; omega); have HW7 := Lib.hid (own_kept (w' := w7) HW6.out fun g hg => hgr7.block g (HW6.out.lt g hg).2 fun e => by have h1 := (hALb.out g e.symm).1; have h2 := HWb.out g hg; omega); have HWT7 := Lib.hid (HWT6.out.grown HO6.out hgr7); have HB7 := Lib.hid (HB6.out.grown hgr7 (Nat.le_trans HZZ.out.2.2 HZZ.out.2.1) (fun b hb => Nat.le_trans HZZ.out.2.2 (hALb.out b hb).1)); have hz7 : W3.heap.size ≤ w7.heap.size := Nat.le_trans HZZ.out.2.1 hgr7.size; have HCA7 := Lib.hid (own_at2 HCO7.out).2; clear hown7 hgr7))
              | (at_builtin; go_must (refine wpList_append_guarded _ (.tmp 115) (.tmp 116) 26 rfl (by simp [go_sem]) W3.heap.size 36 i0' _ 5 72 Try.underlying26 hi hi0 hi1' hi2 rfl (by decide) _ (AL ++ LF).length _ rfl HO7.out co' LC.length cc' (marksV LC) rfl (marksV_length LC) hc0 HCA7.out HC1.out hb5 hb6 hz7 ?_; intro v8 w8 hown8 hgr8; rw [← marksV_append, ← List.length_append] at hown8; have HA8 := Lib.hid (HA7.out.grown HO7.out hgr8); have HFT8 := Lib.hid (HFT7.out.grown HO7.out hgr8); have HCT8 := Lib.hid (HCT7.out.grown HO7.out hgr8); have HW8 := Lib.hid (own_kept (w' := w8) HW7.out fun g hg => hgr8.block g (HW7.out.lt g hg).2 fun e => by have h1 := (HO7.out.lt g e.symm).1; have h2 := HWb.out g hg; omega); have HWT8 := Lib.hid (HWT7.out.grown HO7.out hgr8); have HB8 := Lib.hid (HB7.out.grown hgr8 (Nat.le_trans HZZ.out.2.2 hz7) (fun b hb => Nat.le_trans HZZ.out.2.2 (HO7.out.lt b hb).1)); obtain ⟨a8, c8, hv8, -, -, -, hat8⟩ := own_at hown8; subst hv8; have HAT8 := Lib.hid hat8; clear hown8 hgr8 hat8)))
            have HAA8 : Hid (AtsAt w8 (AL ++ LF ++ LC)) := fun x hx => by
              rcases List.mem_append.1 hx with hx | hx
              · have hf := HFEWA.out
                rcases List.mem_append.1 hx with hy | hy
                · exact ats_at (L := AL) HA8.out (fun z hz => hf z (List.mem_append_left _ hz)) x hy
                · exact ats_at (L := LF) HFT8.out (fun z hz => hf z (List.mem_append_right _ hz)) x hy
              · exact ats_at (L := LC) HCT8.out HFEWC.out x hx
            have hJ := Join_any (AL ++ LF ++ LC) a8 c8 w8 HAT8.out HAA8.out HLM.out HTL.out
            rw [HJ.out, show (AL ++ LF ++ LC).length = AL.length + (LF.length + LC.length) from by rw [List.length_append, List.length_append, Nat.add_assoc]] at hJ
            refine hJ.mono ?_
            rintro r W9 ⟨v9, Lo, rfl, j1, j2, j3, j4⟩
            obtain ⟨ja, jc, hv9, -, -, -, jat⟩ := own_at j2
            subst hv9
            have hle := j1.trans HLW.out.symm
            have hll : Lo.length ≤ 10000000000 := by
              have := congrArg List.length hle
              rw [List.length_map, List.length_map] at this
              omega
            have HW9 := Lib.hid (own_at2 (own_below HW8.out j4)).2
            have HWA9 := Lib.hid (ats_at (ats_below HWT8.out j4) fun x hx => (HFF.out x.1 (by rw [← HLW.out]; exact List.mem_map_of_mem hx)).few)
            have HJA := Lib.hid (ats_at j3 fun x hx => (HFF.out x.1 (by rw [← j1]; exact List.mem_map_of_mem hx)).few)
            have HJT := Lib.hid jat
            have HB9 := Lib.hid (belowCall HB8.out j4)
            have HLE := Lib.hid hle
            clear hJ j1 j2 j3 j4 jat hle
            dsimp only
            go_wp2_with fail
            refine (Same_true HLE.out ja wo jc wc W9 HJT.out HJA.out HW9.out HWA9.out hll).mono ?_
            rintro r W10 ⟨rfl, hb10⟩
            have HB10 := Lib.hid (belowCall HB9.out hb10)
            clear hb10
            dsimp only
            go_wp2_with fail
            go_ret
            exact ⟨rfl, HB10.out⟩
          · have he1 : (p.2 != 0) = true := by simpa using hp0
            rcases HERR.out with he | ⟨he, hep⟩
            · rw [he]
              clear hp0 he hcm
              dsimp only
              go_wp2_with fail
              go_ret
              exact ⟨rfl, HB6.out⟩
            · rw [hep]
              clear hp0 he hep hcm
              dsimp only
              go_wp2_with fail
              go_ret
              exact ⟨rfl, HB6.out⟩
        · have hF := Feed_any M B y R wr HRr.out HMr.out (by omega) hname
          have hPf := HPC.out.feed R.toList (by rw [size_toList]; omega)
          rw [HDR.out] at hPf
          obtain ⟨o, ho⟩ : ∃ o, o = drainF (feedF M R.toList) := ⟨_, rfl⟩
          rw [← ho] at hF hPf
          have HF := Lib.hid hF
          have HPF := Lib.hid hPf
          clear hF hPf ho
          go_wp2_with fail
          refine HF.out.mono ?_
          rintro r W5 ⟨hd, r5, k5⟩
          obtain ⟨fo, fc, LF, rfl, hfm, hfe, hfo, hfats⟩ := drain_own hd
          have HM5 := Lib.hid (max_keeps HMr.out HRr.out k5)
          have HK5 := Lib.hid (HK.out.trans k5)
          have HR5 := Lib.hid r5
          have HO5 := Lib.hid (own_kept (w' := W5) HO.out fun g hg => k5.block g (HO.out.lt g hg).2 (by show ¬ g = B; have := (HO.out.lt g hg).1; omega))
          have HA5 := Lib.hid (HAO.out.keeps hB3 k5)
          have HFO := Lib.hid hfo
          have HFT := Lib.hid hfats
          have hz5 := k5.size
          have hALb : Hid (∀ g, (Value.ownBlock u9) = some g → W3.heap.size ≤ g ∧ g < wr.heap.size) := fun g hg => HO.out.lt g hg
          have hpc' : Pcs s.toList ((AL ++ LF).map (·.1)) o.2 (k + 1) ∧ (o.2.err = 0 ∨ (o.2.err ≠ 0 ∧ o.2.err = p.2)) := by
            rw [List.map_append]
            rcases HPF.out with ⟨q1, q2⟩ | ⟨q1, q2⟩
            · rw [hfe q1, List.map_nil, List.append_nil]
              refine ⟨q2, .inr ⟨q1, ?_⟩⟩
              have := q2.st.err q1 []
              rw [List.append_nil, ← HP.out] at this
              exact this.symm
            · rw [hfm q1]
              exact ⟨q2, .inl q1⟩
          obtain ⟨hpc', herr⟩ := hpc'
          have hbo := hpc'.buf
          rw [size_toList] at hbo
          have hno := hpc'.name
          have hcnt := hpc'.cnt
          have htxt := hpc'.txt
          have hcl := hpc'.st.close
          rw [← HP.out] at hcl
          have hC := Close_any o.2 B y W5 HR5.out HM5.out (by omega) hno
          have hqr := drainF_room _ { o.2 with closed := true } (Nat.le_refl _) hno
          have hqd := doM_le { o.2 with closed := true }
          have hqf := drainF_few { o.2 with closed := true }
          obtain ⟨q, hq⟩ : ∃ q, q = drainF { o.2 with closed := true } := ⟨_, rfl⟩
          rw [← hq] at hC hcl hqr hqf
          have HQF := Lib.hid hqf
          have hqn : q.1.length ≤ 700000 ∧ tlen q.1 ≤ 700000 := by
            have hbb : ({ o.2 with closed := true } : MkM).buf.length = o.2.buf.length := rfl
            rw [hbb] at hqd hqr
            constructor <;> omega
          have HQN := Lib.hid hqn
          have HFEW := Lib.hid hpc'.few
          have HCL := Lib.hid hcl
          have HC := Lib.hid hC
          have HERR := Lib.hid herr
          have HFM := Lib.hid hfm
          have hcnt2 : (k + 1) * 700000 ≤ 2100700000 := by omega
          clear hd k5 r5 hfm hfe hfo hfats hpc' HF HPF hbo hno hC hqr hqd hqn hcl hq herr hqf
          dsimp only
          go_wp2_with fail
          refine HC.out.mono ?_
          rintro r W6 ⟨hd, r6, k6⟩
          obtain ⟨co', cc', LC, rfl, hcm, -, hco, hcats⟩ := drain_own hd
          have HB6 := Lib.hid (below_keeps HB3.out hBw (HK5.out.trans k6))
          rw [HCL.out.1]
          rw [HCL.out.1] at hcm
          by_cases hp0 : p.2 = 0
          · obtain ⟨e1, e2⟩ := HCL.out.2 hp0
            have HO6 := Lib.hid (own_kept (w' := W6) HO5.out fun g hg => k6.block g (HO5.out.lt g hg).2 (by show ¬ g = B; have := (HO5.out.lt g hg).1; omega))
            have HA6 := Lib.hid (HA5.out.keeps hB3 k6)
            have HFO6 := Lib.hid (own_kept (w' := W6) HFO.out fun g hg => k6.block g (HFO.out.lt g hg).2 (by show ¬ g = B; have := (HFO.out.lt g hg).1; omega))
            have HFT6 := Lib.hid (HFT.out.keeps (show B < wr.heap.size by omega) k6)
            have HCO := Lib.hid hco
            have HCT := Lib.hid hcats
            have hk36 := HK5.out.trans k6
            have HW6 := Lib.hid (own_kept (w' := W6) HATW.out fun g hg => hk36.block g (HATW.out.lt g hg).2 (by show ¬ g = B; have := (HATW.out.lt g hg).1; omega))
            have HWT6 := Lib.hid (HATSW.out.keeps hB2 hk36)
            have HWb : Hid (∀ g, (Value.slice wo LW.length wc).ownBlock = some g → g < W3.heap.size) := fun g hg => (HATW.out.lt g hg).2
            have hz6 := k6.size
            have hz36 : W3.heap.size ≤ W6.heap.size := by omega
            have hzw6 : w.heap.size ≤ W3.heap.size := by omega
            obtain ⟨hf0, hfat⟩ := own_at2 HFO6.out
            obtain ⟨hc0, -⟩ := own_at2 hco
            have HFA6 := Lib.hid hfat
            have HF1 := Lib.hid (marksV_one HFT6.out)
            have HC1 := Lib.hid (marksV_one hcats)
            have hLC := hcm hp0
            have hcq : LC.length ≤ 700000 := by have := congrArg List.length hLC; rw [List.length_map] at this; have := HQN.out.1; omega
            have hcn : (AL ++ LF).length ≤ 2100700000 := by rw [List.length_map] at hcnt; omega
            have hcn' : AL.length + LF.length ≤ 2100700000 := by rw [List.length_append] at hcn; exact hcn
            have hb3 : AL.length + LF.length ≤ maxLen := by unfold maxLen; omega
            have hb4 : (AL.length + LF.length) * 72 ≤ 140737488355328 := by omega
            have hb5 : (AL ++ LF).length + LC.length ≤ maxLen := by unfold maxLen; omega
            have hb6 : ((AL ++ LF).length + LC.length) * 72 ≤ 140737488355328 := by omega
            have hmap : (AL ++ LF ++ LC).map (·.1) = (AL ++ LF).map (·.1) ++ q.1 := by rw [List.map_append (l₂ := LC), hLC]
            have htl : tlen ((AL ++ LF ++ LC).map (·.1)) ≤ 1099511627776 := by rw [hmap, tlen_append]; have := HQN.out.2; omega
            have hlm : (AL ++ LF ++ LC).length ≤ 10000000000 := by rw [List.length_append (bs := LC)]; omega
            have HJ : Hid (joinF [] ((AL ++ LF ++ LC).map (·.1)) = p.1) := by show _ = _; rw [hmap]; exact e2
            have HFEWC : Hid (∀ x ∈ LC, x.1.attrs.length ≤ 8) := fun x hx => HQF.out x.1 (by rw [← hLC]; exact List.mem_map_of_mem hx)
            have HFEWA : Hid (∀ x ∈ AL ++ LF, x.1.attrs.length ≤ 8) := fun x hx => HFEW.out x.1 (List.mem_map_of_mem hx)
            have HZZ : Hid (wr.heap.size ≤ W5.heap.size ∧ W3.heap.size ≤ W6.heap.size ∧ w.heap.size ≤ W3.heap.size) := ⟨hz5, hz36, hzw6⟩
            have HTL := Lib.hid htl
            have HLM := Lib.hid hlm
            rw [hp0]
            rcases HERR.out with he | ⟨he, -⟩
            case inr => exact absurd e1 he
            rw [he]
            clear hd k6 r6 hcm hco hcats hk36 hfat hLC hmap htl hlm e1 e2 he hcn hcn' hcq hcnt htxt hcnt2
            dsimp only
            go_wp2_with (first
              | (at_builtin; (refine wpList_append_guarded _ (.tmp 113) (.tmp 114) 26 rfl (by simp [go_sem]) W3.heap.size 36 i0' _ 5 72 Try.underlying26 hi hi0 hi1' hi2 rfl (by decide) _ AL.length _ rfl HO6.out fo LF.length fc (marksV LF) rfl (marksV_length LF) hf0 HFA6.out HF1.out hb3 hb4 hz36 ?_; intro v7 w7 hown7 hgr7; rw [← marksV_append, ← List.length_append] at hown7; have HO7 := Lib.hid hown7; have HA7 := Lib.hid (HA6.out.grown HO6.out hgr7); have HFT7 := Lib.hid (HFT6.out.grown HO6.out hgr7); have HCT7 := Lib.hid (HCT.out.grown HO6.out hgr7); have HCO7 := Lib.hid (own_kept (w' := w7) HCO.out fun g hg => hgr7.block g (HCO.out.lt g hg).2 fun e => by have h1 := (hALb.out g e.symm).2; have h2 := (HCO.out.lt g hg).1; have h3 := HZZ.out.1; omega); have HW7 := Lib.hid (own_kept (w' := w7) HW6.out fun g hg => hgr7.block g (HW6.out.lt g hg).2 fun e => by have h1 := (hALb.out g e.symm).1; have h2 := HWb.out g hg; omega); have HWT7 := Lib.hid (HWT6.out.grown HO6.out hgr7); have HB7 := Lib.hid (HB6.out.grown hgr7 (Nat.le_trans HZZ.out.2.2 HZZ.out.2.1) (fun b hb => Nat.le_trans HZZ.out.2.2 (hALb.out b hb).1)); have hz7 : W3.heap.size ≤ w7.heap.size := Nat.le_trans HZZ.out.2.1 hgr7.size; have HCA7 := Lib.hid (own_at2 HCO7.out).2; clear hown7 hgr7))
              | (at_builtin; go_must (refine wpList_append_guarded _ (.tmp 115) (.tmp 116) 26 rfl (by simp [go_sem]) W3.heap.size 36 i0' _ 5 72 Try.underlying26 hi hi0 hi1' hi2 rfl (by decide) _ (AL ++ LF).length _ rfl HO7.out co' LC.length cc' (marksV LC) rfl (marksV_length LC) hc0 HCA7.out HC1.out hb5 hb6 hz7 ?_; intro v8 w8 hown8 hgr8; rw [← marksV_append, ← List.length_append] at hown8; have HA8 := Lib.hid (HA7.out.grown HO7.out hgr8); have HFT8 := Lib.hid (HFT7.out.grown HO7.out hgr8); have HCT8 := Lib.hid (HCT7.out.grown HO7.out hgr8); have HW8 := Lib.hid (own_kept (w' := w8) HW7.out fun g hg => hgr8.block g (HW7.out.lt g hg).2 fun e => by have h1 := (HO7.out.lt g e.symm).1; have h2 := HWb.out g hg; omega); have HWT8 := Lib.hid (HWT7.out.grown HO7.out hgr8); have HB8 := Lib.hid (HB7.out.grown hgr8 (Nat.le_trans HZZ.out.2.2 hz7) (fun b hb => Nat.le_trans HZZ.out.2.2 (HO7.out.lt b hb).1)); obtain ⟨a8, c8, hv8, -, -, -, hat8⟩ := own_at hown8; subst hv8; have HAT8 := Lib.hid hat8; clear hown8 hgr8 hat8)))
            have HAA8 : Hid (AtsAt w8 (AL ++ LF ++ LC)) := fun x hx => by
              rcases List.mem_append.1 hx with hx | hx
              · have hf := HFEWA.out
                rcases List.mem_append.1 hx with hy | hy
                · exact ats_at (L := AL) HA8.out (fun z hz => hf z (List.mem_append_left _ hz)) x hy
                · exact ats_at (L := LF) HFT8.out (fun z hz => hf z (List.mem_append_right _ hz)) x hy
              · exact ats_at (L := LC) HCT8.out HFEWC.out x hx
            have hJ := Join_any (AL ++ LF ++ LC) a8 c8 w8 HAT8.out HAA8.out HLM.out HTL.out
            rw [HJ.out, show (AL ++ LF ++ LC).length = AL.length + (LF.length + LC.length) from by rw [List.length_append, List.length_append, Nat.add_assoc]] at hJ
            refine hJ.mono ?_
            rintro r W9 ⟨v9, Lo, rfl, j1, j2, j3, j4⟩
            obtain ⟨ja, jc, hv9, -, -, -, jat⟩ := own_at j2
            subst hv9
            have hle := j1.trans HLW.out.symm
            have hll : Lo.length ≤ 10000000000 := by
              have := congrArg List.length hle
              rw [List.length_map, List.length_map] at this
              omega
            have HW9 := Lib.hid (own_at2 (own_below HW8.out j4)).2
            have HWA9 := Lib.hid (ats_at (ats_below HWT8.out j4) fun x hx => (HFF.out x.1 (by rw [← HLW.out]; exact List.mem_map_of_mem hx)).few)
            have HJA := Lib.hid (ats_at j3 fun x hx => (HFF.out x.1 (by rw [← j1]; exact List.mem_map_of_mem hx)).few)
            have HJT := Lib.hid jat
            have HB9 := Lib.hid (belowCall HB8.out j4)
            have HLE := Lib.hid hle
            clear hJ j1 j2 j3 j4 jat hle
            dsimp only
            go_wp2_with fail
            refine (Same_true HLE.out ja wo jc wc W9 HJT.out HJA.out HW9.out HWA9.out hll).mono ?_
            rintro r W10 ⟨rfl, hb10⟩
            have HB10 := Lib.hid (belowCall HB9.out hb10)
            clear hb10
            dsimp only
            go_wp2_with fail
            go_ret
            exact ⟨rfl, HB10.out⟩
          · have he1 : (p.2 != 0) = true := by simpa using hp0
            rcases HERR.out with he | ⟨he, hep⟩
            · rw [he]
              clear hp0 he hcm
              dsimp only
              go_wp2_with fail
              go_ret
              exact ⟨rfl, HB6.out⟩
            · rw [hep]
              clear hp0 he hep hcm
              dsimp only
              go_wp2_with fail
              go_ret
              exact ⟨rfl, HB6.out⟩
        · have hF := Feed_any M B y R wr HRr.out HMr.out (by omega) hname
          have hPf := HPC.out.feed R.toList (by rw [size_toList]; omega)
          rw [HDR.out] at hPf
          obtain ⟨o, ho⟩ : ∃ o, o = drainF (feedF M R.toList) := ⟨_, rfl⟩
          rw [← ho] at hF hPf
          have HF := Lib.hid hF
          have HPF := Lib.hid hPf
          clear hF hPf ho
          go_wp2_with fail
          refine HF.out.mono ?_
          rintro r W5 ⟨hd, r5, k5⟩
          obtain ⟨fo, fc, LF, rfl, hfm, hfe, hfo, hfats⟩ := drain_own hd
          have HM5 := Lib.hid (max_keeps HMr.out HRr.out k5)
          have HK5 := Lib.hid (HK.out.trans k5)
          have HR5 := Lib.hid r5
          have HO5 := Lib.hid (own_kept (w' := W5) HO.out fun g hg => k5.block g (HO.out.lt g hg).2 (by show ¬ g = B; have := (HO.out.lt g hg).1; omega))
          have HA5 := Lib.hid (HAO.out.keeps hB3 k5)
          have HFO := Lib.hid hfo
          have HFT := Lib.hid hfats
          have hz5 := k5.size
          have hALb : Hid (∀ g, (Value.ownBlock u9) = some g → W3.heap.size ≤ g ∧ g < wr.heap.size) := fun g hg => HO.out.lt g hg
          have hpc' : Pcs s.toList ((AL ++ LF).map (·.1)) o.2 (k + 1) ∧ (o.2.err = 0 ∨ (o.2.err ≠ 0 ∧ o.2.err = p.2)) := by
            rw [List.map_append]
            rcases HPF.out with ⟨q1, q2⟩ | ⟨q1, q2⟩
            · rw [hfe q1, List.map_nil, List.append_nil]
              refine ⟨q2, .inr ⟨q1, ?_⟩⟩
              have := q2.st.err q1 []
              rw [List.append_nil, ← HP.out] at this
              exact this.symm
            · rw [hfm q1]
              exact ⟨q2, .inl q1⟩
          obtain ⟨hpc', herr⟩ := hpc'
          have hbo := hpc'.buf
          rw [size_toList] at hbo
          have hno := hpc'.name
          have hcnt := hpc'.cnt
          have htxt := hpc'.txt
          have hcl := hpc'.st.close
          rw [← HP.out] at hcl
          have hC := Close_any o.2 B y W5 HR5.out HM5.out (by omega) hno
          have hqr := drainF_room _ { o.2 with closed := true } (Nat.le_refl _) hno
          have hqd := doM_le { o.2 with closed := true }
          have hqf := drainF_few { o.2 with closed := true }
          obtain ⟨q, hq⟩ : ∃ q, q = drainF { o.2 with closed := true } := ⟨_, rfl⟩
          rw [← hq] at hC hcl hqr hqf
          have HQF := Lib.hid hqf
          have hqn : q.1.length ≤ 700000 ∧ tlen q.1 ≤ 700000 := by
            have hbb : ({ o.2 with closed := true } : MkM).buf.length = o.2.buf.length := rfl
            rw [hbb] at hqd hqr
            constructor <;> omega
          have HQN := Lib.hid hqn
          have HFEW := Lib.hid hpc'.few
          have HCL := Lib.hid hcl
          have HC := Lib.hid hC
          have HERR := Lib.hid herr
          have HFM := Lib.hid hfm
          have hcnt2 : (k + 1) * 700000 ≤ 2100700000 := by omega
          clear hd k5 r5 hfm hfe hfo hfats hpc' HF HPF hbo hno hC hqr hqd hqn hcl hq herr hqf
          dsimp only
          go_wp2_with fail
          refine HC.out.mono ?_
          rintro r W6 ⟨hd, r6, k6⟩
          obtain ⟨co', cc', LC, rfl, hcm, -, hco, hcats⟩ := drain_own hd
          have HB6 := Lib.hid (below_keeps HB3.out hBw (HK5.out.trans k6))
          rw [HCL.out.1]
          rw [HCL.out.1] at hcm
          by_cases hp0 : p.2 = 0
          · obtain ⟨e1, e2⟩ := HCL.out.2 hp0
            have HO6 := Lib.hid (own_kept (w' := W6) HO5.out fun g hg => k6.block g (HO5.out.lt g hg).2 (by show ¬ g = B; have := (HO5.out.lt g hg).1; omega))
            have HA6 := Lib.hid (HA5.out.keeps hB3 k6)
            have HFO6 := Lib.hid (own_kept (w' := W6) HFO.out fun g hg => k6.block g (HFO.out.lt g hg).2 (by show ¬ g = B; have := (HFO.out.lt g hg).1; omega))
            have HFT6 := Lib.hid (HFT.out.keeps (show B < wr.heap.size by omega) k6)
            have HCO := Lib.hid hco
            have HCT := Lib.hid hcats
            have hk36 := HK5.out.trans k6
            have HW6 := Lib.hid (own_kept (w' := W6) HATW.out fun g hg => hk36.block g (HATW.out.lt g hg).2 (by show ¬ g = B; have := (HATW.out.lt g hg).1; omega))
            have HWT6 := Lib.hid (HATSW.out.keeps hB2 hk36)
            have HWb : Hid (∀ g, (Value.slice wo LW.length wc).ownBlock = some g → g < W3.heap.size) := fun g hg => (HATW.out.lt g hg).2
            have hz6 := k6.size
            have hz36 : W3.heap.size ≤ W6.heap.size := by omega
            have hzw6 : w.heap.size ≤ W3.heap.size := by omega
            obtain ⟨hf0, hfat⟩ := own_at2 HFO6.out
            obtain ⟨hc0, -⟩ := own_at2 hco
            have HFA6 := Lib.hid hfat
            have HF1 := Lib.hid (marksV_one HFT6.out)
            have HC1 := Lib.hid (marksV_one hcats)
            have hLC := hcm hp0
            have hcq : LC.length ≤ 700000 := by have := congrArg List.length hLC; rw [List.length_map] at this; have := HQN.out.1; omega
            have hcn : (AL ++ LF).length ≤ 2100700000 := by rw [List.length_map] at hcnt; omega
            have hcn' : AL.length + LF.length ≤ 2100700000 := by rw [List.length_append] at hcn; exact hcn
            have hb3 : AL.length + LF.length ≤ maxLen := by unfold maxLen; omega
            have hb4 : (AL.length + LF.length) * 72 ≤ 140737488355328 := by omega
            have hb5 : (AL ++ LF).length + LC.length ≤ maxLen := by unfold maxLen; omega
            have hb6 : ((AL ++ LF).length + LC.length) * 72 ≤ 140737488355328 := by omega
            have hmap : (AL ++ LF ++ LC).map (·.1) = (AL ++ LF).map (·.1) ++ q.1 := by rw [List.map_append (l₂ := LC), hLC]
            have htl : tlen ((AL ++ LF ++ LC).map (·.1)) ≤ 1099511627776 := by rw [hmap, tlen_append]; have := HQN.out.2; omega
            have hlm : (AL ++ LF ++ LC).length ≤ 10000000000 := by rw [List.length_append (bs := LC)]; omega
            have HJ : Hid (joinF [] ((AL ++ LF ++ LC).map (·.1)) = p.1) := by show _ = _; rw [hmap]; exact e2
            have HFEWC : Hid (∀ x ∈ LC, x.1.attrs.length ≤ 8) := fun x hx => HQF.out x.1 (by rw [← hLC]; exact List.mem_map_of_mem hx)
            have HFEWA : Hid (∀ x ∈ AL ++ LF, x.1.attrs.length ≤ 8) := fun x hx => HFEW.out x.1 (List.mem_map_of_mem hx)
            have HZZ : Hid (wr.heap.size ≤ W5.heap.size ∧ W3.heap.size ≤ W6.heap.size ∧ w.heap.size ≤ W3.heap.size) := ⟨hz5, hz36, hzw6⟩
            have HTL := Lib.hid htl
            have HLM := Lib.hid hlm
            rw [hp0]
            rcases HERR.out with he | ⟨he, -⟩
            case inr => exact absurd e1 he
            rw [he]
            clear hd k6 r6 hcm hco hcats hk36 hfat hLC hmap htl hlm e1 e2 he hcn hcn' hcq hcnt htxt hcnt2
            dsimp only
            go_wp2_with (first
              | (at_builtin; (refine wpList_append_guarded _ (.tmp 113) (.tmp 114) 26 rfl (by simp [go_sem]) W3.heap.size 36 i0' _ 5 72 Try.underlying26 hi hi0 hi1' hi2 rfl (by decide) _ AL.length _ rfl HO6.out fo LF.length fc (marksV LF) rfl (marksV_length LF) hf0 HFA6.out HF1.out hb3 hb4 hz36 ?_; intro v7 w7 hown7 hgr7; rw [← marksV_append, ← List.length_append] at hown7; have HO7 := Lib.hid hown7; have HA7 := Lib.hid (HA6.out.grown HO6.out hgr7); have HFT7 := Lib.hid (HFT6.out.grown HO6.out hgr7); have HCT7 := Lib.hid (HCT.out.grown HO6.out hgr7); have HCO7 := Lib.hid (own_kept (w' := w7) HCO.out fun g hg => hgr7.block g (HCO.out.lt g hg).2 fun e => by have h1 := (hALb.out g e.symm).2; have h2 := (HCO.out.lt g hg).1; have h3 := HZZ.out.1; omega); have HW7 := Lib.hid (own_kept (w' := w7) HW6.out fun g hg => hgr7.block g (HW6.out.lt g hg).2 fun e => by have h1 := (hALb.out g e.symm).1; have h2 := HWb.out g hg; omega); have HWT7 := Lib.hid (HWT6.out.grown HO6.out hgr7); have HB7 := Lib.hid (HB6.out.grown hgr7 (Nat.le_trans HZZ.out.2.2 HZZ.out.2.1) (fun b hb => Nat.le_trans HZZ.out.2.2 (hALb.out b hb).1)); have hz7 : W3.heap.size ≤ w7.heap.size := Nat.le_trans HZZ.out.2.1 hgr7.size; have HCA7 := Lib.hid (own_at2 HCO7.out).2; clear hown7 hgr7))
              | (at_builtin; go_must (refine wpList_append_guarded _ (.tmp 115) (.tmp 116) 26 rfl (by simp [go_sem]) W3.heap.size 36 i0' _ 5 72 Try.underlying26 hi hi0 hi1' hi2 rfl (by decide) _ (AL ++ LF).length _ rfl HO7.out co' LC.length cc' (marksV LC) rfl (marksV_length LC) hc0 HCA7.out HC1.out hb5 hb6 hz7 ?_; intro v8 w8 hown8 hgr8; rw [← marksV_append, ← List.length_append] at hown8; have HA8 := Lib.hid (HA7.out.grown HO7.out hgr8); have HFT8 := Lib.hid (HFT7.out.grown HO7.out hgr8); have HCT8 := Lib.hid (HCT7.out.grown HO7.out hgr8); have HW8 := Lib.hid (own_kept (w' := w8) HW7.out fun g hg => hgr8.block g (HW7.out.lt g hg).2 fun e => by have h1 := (HO7.out.lt g e.symm).1; have h2 := HWb.out g hg; omega); have HWT8 := Lib.hid (HWT7.out.grown HO7.out hgr8); have HB8 := Lib.hid (HB7.out.grown hgr8 (Nat.le_trans HZZ.out.2.2 hz7) (fun b hb => Nat.le_trans HZZ.out.2.2 (HO7.out.lt b hb).1)); obtain ⟨a8, c8, hv8, -, -, -, hat8⟩ := own_at hown8; subst hv8; have HAT8 := Lib.hid hat8; clear hown8 hgr8 hat8)))
            have HAA8 : Hid (AtsAt w8 (AL ++ LF ++ LC)) := fun x hx => by
              rcases List.mem_append.1 hx with hx | hx
              · have hf := HFEWA.out
                rcases List.mem_append.1 hx with hy | hy
                · exact ats_at (L := AL) HA8.out (fun z hz => hf z (List.mem_append_left _ hz)) x hy
                · exact ats_at (L := LF) HFT8.out (fun z hz => hf z (List.mem_append_right _ hz)) x hy
              · exact ats_at (L := LC) HCT8.out HFEWC.out x hx
            have hJ := Join_any (AL ++ LF ++ LC) a8 c8 w8 HAT8.out HAA8.out HLM.out HTL.out
            rw [HJ.out, show (AL ++ LF ++ LC).length = AL.length + (LF.length + LC.length) from by rw [List.length_append, List.length_append, Nat.add_assoc]] at hJ
            refine hJ.mono ?_
            rintro r W9 ⟨v9, Lo, rfl, j1, j2, j3, j4⟩
            obtain ⟨ja, jc, hv9, -, -, -, jat⟩ := own_at j2
            subst hv9
            have hle := j1.trans HLW.out.symm
            have hll : Lo.length ≤ 10000000000 := by
              have := congrArg List.length hle
              rw [List.length_map, List.length_map] at this
              omega
            have HW9 := Lib.hid (own_at2 (own_below HW8.out j4)).2
            have HWA9 := Lib.hid (ats_at (ats_below HWT8.out j4) fun x hx => (HFF.out x.1 (by rw [← HLW.out]; exact List.mem_map_of_mem hx)).few)
            have HJA := Lib.hid (ats_at j3 fun x hx => (HFF.out x.1 (by rw [← j1]; exact List.mem_map_of_mem hx)).few)
            have HJT := Lib.hid jat
            have HB9 := Lib.hid (belowCall HB8.out j4)
            have HLE := Lib.hid hle
            clear hJ j1 j2 j3 j4 jat hle
            dsimp only
            go_wp2_with fail
            refine (Same_true HLE.out ja wo jc wc W9 HJT.out HJA.out HW9.out HWA9.out hll).mono ?_
            rintro r W10 ⟨rfl, hb10⟩
            have HB10 := Lib.hid (belowCall HB9.out hb10)
            clear hb10
            dsimp only
            go_wp2_with fail
            go_ret
            exact ⟨rfl, HB10.out⟩
          · have he1 : (p.2 != 0) = true := by simpa using hp0
            rcases HERR.out with he | ⟨he, hep⟩
            · rw [he]
              clear hp0 he hcm
              dsimp only
              go_wp2_with fail
              go_ret
              exact ⟨rfl, HB6.out⟩
            · rw [hep]
              clear hp0 he hep hcm
              dsimp only
              go_wp2_with fail
              go_ret
              exact ⟨rfl, HB6.out⟩
end Go.Proofs.Ytbabcohidpcjjaa
