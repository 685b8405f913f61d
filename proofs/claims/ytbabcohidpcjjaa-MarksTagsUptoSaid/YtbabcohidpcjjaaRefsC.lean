/-
  Contracts: colanderref08.Bytes, Char; colanderref12.Names: what each makes, in new memory.
-/
import Derived.Test.YtbabcohidpcjjaaRefsB
import Derived.Test.YtbabcohidpcjjaaMemB
namespace Go.Proofs.Ytbabcohidpcjjaa
open Go.RowKit Mem

theorem bytes_own (w : World) (vs : Array Value) (l : Str) (e : TypeId) (h : vs.toList = bytesV l) (hl : l.length ≤ 4) : (w.alloc (.cells vs e)).ownsRow w.heap.size e 1 (.slice (some ⟨w.heap.size, 0, none⟩) l.length l.length) l.length (bytesV l) := by
  have hs : vs.size = l.length := by rw [← Array.length_toList, h, bytesV_length]
  have := World.ownsRow_lit (base := w.heap.size) (e := e) (size := 1) w vs l.length (Nat.le_refl _) (by unfold maxLen; omega) (by omega)
  rw [h] at this
  exact this
theorem enc1 {c : Nat} (h : c < 128) : encF c = [UInt8.ofNat c] := by rw [encF, if_pos (show c < 0x80 from h)]
theorem enc2 {c : Nat} (h1 : ¬ c < 128) (h : c < 2048) : encF c = [UInt8.ofNat (0xc0 + c / 64), UInt8.ofNat (0x80 + c % 64)] := by rw [encF, if_neg (show ¬ c < 0x80 from h1), if_pos (show c < 0x800 from h)]
theorem enc3 {c : Nat} (h1 : ¬ c < 2048) (h : c < 65536) : encF c = [UInt8.ofNat (0xe0 + c / 4096), UInt8.ofNat (0x80 + c / 64 % 64), UInt8.ofNat (0x80 + c % 64)] := by rw [encF, if_neg (show ¬ c < 0x80 from by omega), if_neg (show ¬ c < 0x800 from h1), if_pos (show c < 0x10000 from h)]
theorem enc4 {c : Nat} (h1 : ¬ c < 65536) : encF c = [UInt8.ofNat (0xf0 + c / 262144), UInt8.ofNat (0x80 + c / 4096 % 64), UInt8.ofNat (0x80 + c / 64 % 64), UInt8.ofNat (0x80 + c % 64)] := by rw [encF, if_neg (show ¬ c < 0x80 from by omega), if_neg (show ¬ c < 0x800 from by omega), if_neg (show ¬ c < 0x10000 from h1)]
theorem u8v {n : Nat} {z : Int} (h : n < 256) (hz : z = n) : Value.int .u8 z = .int .u8 ((UInt8.ofNat n).toNat : Nat) := by
  subst hz
  rw [UInt8.toNat_ofNat_of_lt' (by simpa using h)]
end Go.Proofs.Ytbabcohidpcjjaa
