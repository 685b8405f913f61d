/-
  The library's contracts of strings.Index, IndexByte's kin and Builder.WriteByte, laid by the kit's shelf. Printed by a program (wip/shelf.py).
-/
import Derived.Shelf.Strings.IndexAnyAll
import Derived.Shelf.Strings.Search3
import Derived.Laws.RangeAny
import Derived.Test.YtbabcohidpcjjaaShelfA
namespace Go.Proofs.Ytbabcohidpcjjaa
open Go Go.Proofs Go.Shelf Go.RowKit Go.Lib

def shelfRenM : Go.Shelf.Ren := ⟨fun | 119 => 78 | 137 => 39 | 143 => 46 | 152 => 56 | 153 => 48 | 167 => 31 | 217 => 47 | 219 => 54 | 224 => 76 | 225 => 75 | 226 => 57 | 227 => 58 | 228 => 59 | 240 => 37 | 266 => 55 | 267 => 77 | 276 => 44 | 314 => 90 | n => n, fun | 0 => 0 | 3 => 3 | 4 => 4 | 5 => 5 | 9 => 9 | 20 => 20 | 21 => 21 | 37 => 44 | 46 => 112 | 51 => 123 | 70 => 64 | 72 => 66 | 75 => 68 | 80 => 72 | 116 => 93 | 117 => 94 | 124 => 114 | 146 => 124 | 164 => 83 | n => n, fun | 1 => 0 | n => n⟩
theorem laysM143 : Lays.n143 Try.prog shelfRenM := {
  mixed := by kernel_rfl
  f143 := Try.func46.trans (congrArg some (by kernel_rfl))
  f217 := Try.func47.trans (congrArg some (by kernel_rfl))
  f219 := Try.func54.trans (congrArg some (by kernel_rfl))
  f224 := Try.func76.trans (congrArg some (by kernel_rfl))
  f225 := Try.func75.trans (congrArg some (by kernel_rfl))
  f266 := Try.func55.trans (congrArg some (by kernel_rfl))
  f267 := Try.func77.trans (congrArg some (by kernel_rfl))
  f314 := Try.func90.trans (congrArg some (by kernel_rfl))
  t3 := Try.underlying3
  a3 := Try.isAgg3
  z3 := Try.sizeOf3
  v3 := Try.zeroValue3
  t4 := Try.underlying4
  a4 := Try.isAgg4
  z4 := Try.sizeOf4
  v4 := Try.zeroValue4
  t5 := Try.underlying5
  a5 := Try.isAgg5
  z5 := Try.sizeOf5
  v5 := Try.zeroValue5
  t9 := Try.underlying9
  a9 := Try.isAgg9
  z9 := Try.sizeOf9
  v9 := Try.zeroValue9
  t46 := Try.underlying112
  a46 := Try.isAgg112
  z46 := Try.sizeOf112
  v46 := Try.zeroValue112
  t51 := Try.underlying123
  a51 := Try.isAgg123
  z51 := Try.sizeOf123
  v51 := Try.zeroValue123
  t146 := Try.underlying124
  a146 := Try.isAgg124
  z146 := Try.sizeOf124
  v146 := Try.zeroValue124
  g1 := by kernel_rfl }
theorem laysM152 : Lays.n152 Try.prog shelfRenM := {
  mixed := by kernel_rfl
  f119 := Try.func78.trans (congrArg some (by kernel_rfl))
  f137 := Try.func39.trans (congrArg some (by kernel_rfl))
  f152 := Try.func56.trans (congrArg some (by kernel_rfl))
  f217 := Try.func47.trans (congrArg some (by kernel_rfl))
  f224 := Try.func76.trans (congrArg some (by kernel_rfl))
  f225 := Try.func75.trans (congrArg some (by kernel_rfl))
  f266 := Try.func55.trans (congrArg some (by kernel_rfl))
  t0 := Try.underlying0
  a0 := Try.isAgg0
  z0 := Try.sizeOf0
  v0 := Try.zeroValue0
  t3 := Try.underlying3
  a3 := Try.isAgg3
  z3 := Try.sizeOf3
  v3 := Try.zeroValue3
  t4 := Try.underlying4
  a4 := Try.isAgg4
  z4 := Try.sizeOf4
  v4 := Try.zeroValue4
  t5 := Try.underlying5
  a5 := Try.isAgg5
  z5 := Try.sizeOf5
  v5 := Try.zeroValue5
  t9 := Try.underlying9
  a9 := Try.isAgg9
  z9 := Try.sizeOf9
  v9 := Try.zeroValue9
  t21 := Try.underlying21
  a21 := Try.isAgg21
  z21 := Try.sizeOf21
  v21 := Try.zeroValue21
  t46 := Try.underlying112
  a46 := Try.isAgg112
  z46 := Try.sizeOf112
  v46 := Try.zeroValue112 }
theorem laysM153 : Lays.n153 Try.prog shelfRenM := {
  mixed := by kernel_rfl
  f119 := Try.func78.trans (congrArg some (by kernel_rfl))
  f137 := Try.func39.trans (congrArg some (by kernel_rfl))
  f152 := Try.func56.trans (congrArg some (by kernel_rfl))
  f153 := Try.func48.trans (congrArg some (by kernel_rfl))
  f217 := Try.func47.trans (congrArg some (by kernel_rfl))
  f224 := Try.func76.trans (congrArg some (by kernel_rfl))
  f225 := Try.func75.trans (congrArg some (by kernel_rfl))
  f226 := Try.func57.trans (congrArg some (by kernel_rfl))
  f227 := Try.func58.trans (congrArg some (by kernel_rfl))
  f228 := Try.func59.trans (congrArg some (by kernel_rfl))
  f266 := Try.func55.trans (congrArg some (by kernel_rfl))
  t0 := Try.underlying0
  a0 := Try.isAgg0
  z0 := Try.sizeOf0
  v0 := Try.zeroValue0
  t3 := Try.underlying3
  a3 := Try.isAgg3
  z3 := Try.sizeOf3
  v3 := Try.zeroValue3
  t4 := Try.underlying4
  a4 := Try.isAgg4
  z4 := Try.sizeOf4
  v4 := Try.zeroValue4
  t5 := Try.underlying5
  a5 := Try.isAgg5
  z5 := Try.sizeOf5
  v5 := Try.zeroValue5
  t9 := Try.underlying9
  a9 := Try.isAgg9
  z9 := Try.sizeOf9
  v9 := Try.zeroValue9
  t21 := Try.underlying21
  a21 := Try.isAgg21
  z21 := Try.sizeOf21
  v21 := Try.zeroValue21
  t46 := Try.underlying112
  a46 := Try.isAgg112
  z46 := Try.sizeOf112
  v46 := Try.zeroValue112
  t116 := Try.underlying93
  a116 := Try.isAgg93
  z116 := Try.sizeOf93
  t117 := Try.underlying94
  a117 := Try.isAgg94
  z117 := Try.sizeOf94
  v117 := Try.zeroValue94
  t124 := Try.underlying114
  a124 := Try.isAgg114
  z124 := Try.sizeOf114
  v124 := Try.zeroValue114 }
theorem laysM167 : Lays.n167 Try.prog shelfRenM := {
  mixed := by kernel_rfl
  f167 := Try.func31.trans (congrArg some (by kernel_rfl))
  f240 := Try.func37.trans (congrArg some (by kernel_rfl))
  f276 := Try.func44.trans (congrArg some (by kernel_rfl))
  t0 := Try.underlying0
  a0 := Try.isAgg0
  z0 := Try.sizeOf0
  v0 := Try.zeroValue0
  t4 := Try.underlying4
  a4 := Try.isAgg4
  z4 := Try.sizeOf4
  v4 := Try.zeroValue4
  t5 := Try.underlying5
  a5 := Try.isAgg5
  z5 := Try.sizeOf5
  v5 := Try.zeroValue5
  t9 := Try.underlying9
  a9 := Try.isAgg9
  z9 := Try.sizeOf9
  v9 := Try.zeroValue9
  t20 := Try.underlying20
  a20 := Try.isAgg20
  z20 := Try.sizeOf20
  v20 := Try.zeroValue20
  t37 := Try.underlying44
  a37 := Try.isAgg44
  z37 := Try.sizeOf44
  v37 := Try.zeroValue44
  t70 := Try.underlying64
  a70 := Try.isAgg64
  z70 := Try.sizeOf64
  v70 := Try.zeroValue64
  t72 := Try.underlying66
  a72 := Try.isAgg66
  z72 := Try.sizeOf66
  v72 := Try.zeroValue66
  t75 := Try.underlying68
  a75 := Try.isAgg68
  z75 := Try.sizeOf68
  v75 := Try.zeroValue68
  t164 := Try.underlying83
  a164 := Try.isAgg83
  z164 := Try.sizeOf83
  v164 := Try.zeroValue83 }
theorem shelfExtraM : Builder.Extra Try.prog shelfRenM := {
  sizeBuilder := by kernel_rfl
  liesBuilder := by kernel_rfl
  t5 := Try.underlying5
  a5 := Try.isAgg5
  z5 := Try.sizeOf5
  v5 := Try.zeroValue5
  infoByte := by kernel_rfl
  cellsByte := by kernel_rfl
  sizeByte := by kernel_rfl
  neB5 := by decide }
theorem Index_any (s sub : ByteArray) (m : Int) (w : World) (hs : s.size < 4294967281) (hm : w.cell? ⟨0, 0, none⟩ = some (.int .i64 m)) :
    Calls Try.prog 46 #[.string s, .string sub] w fun e w' => e = .returned (.int .i64 (Lib.index s.data.toList sub.data.toList)) ∧ w' = w := Any.strings_Index laysM143 s sub m w hs hm
theorem IndexRune_ascii_any (s : ByteArray) (r : Int) (w : World) (h0 : 0 ≤ r) (h1 : r < 128) :
    Calls Try.prog 56 #[.string s, .int .i32 r] w fun e w' => e = .returned (.int .i64 (Lib.indexByte s.data.toList r.toNat.toUInt8)) ∧ w' = w := Any.strings_IndexRune_ascii laysM152 s r w h0 h1
theorem IndexAny_one_any (s chars : ByteArray) (w : World) (h1 : chars.size = 1) (hascii : ∀ (j : Nat) b, chars.data.toList[j]? = some b → b.toNat < 128) :
    Calls Try.prog 48 #[.string s, .string chars] w fun e w' => e = .returned (.int .i64 (Lib.indexAny s.data.toList chars.data.toList)) ∧ w' = w := Any.strings_IndexAny_one laysM153 s chars w h1 hascii
theorem ascii_info : (Try.prog.info? (shelfRenM.t 116)).map (fun i => (i.zero, i.size)) = some (some (.agg (Array.replicate 256 (.bool false))), 256) := by kernel_rfl
theorem IndexAny_long_any (s chars : ByteArray) (w : World) (h2 : 2 ≤ chars.size) (h8 : 8 < s.size) (hs : s.size < 4294967281) (hcs : chars.size < 4294967281)
    (hascii : ∀ (j : Nat) b, chars.data.toList[j]? = some b → b.toNat < 128) :
    Calls Try.prog 48 #[.string s, .string chars] w fun e w' => e = .returned (.int .i64 (Lib.indexAny s.data.toList chars.data.toList)) ∧ Below w.heap.size w w' :=
  (Any.strings_IndexAny_long laysM153 (zero_of_info ascii_info).1 (zero_of_info ascii_info).2 s chars w h2 h8 hs hcs hascii).mono fun e w' ⟨h1, h2⟩ => ⟨h1, by
    rw [h2]
    exact ((Below.refl _ _).alloc (Nat.le_refl _) _).alloc (by simp) _⟩
theorem WriteByte_any (B b : Nat) (bs : List Value) (c : Int) (w : World) (h : Lib.IsBuilderF 66 5 B b bs w) (hlen : bs.length + 1 ≤ 140737488355328) (hBw : B ≤ w.heap.size) :
    Calls Try.prog 31 #[.pointer (some ⟨b, 0, none⟩), .int .u8 c] w fun e w' => e = .returned .nilIface ∧ (Lib.BuilderAtF 66 5 B b (.pointer (some ⟨b, 0, none⟩)) (bs ++ [.int .u8 c]) w' ∧ Below B w w' ∧ Lib.OthersKept 5 (some b) w w') := Any.Builder_WriteByte_k laysM167 shelfExtraM B b bs c w h hlen hBw
end Go.Proofs.Ytbabcohidpcjjaa
