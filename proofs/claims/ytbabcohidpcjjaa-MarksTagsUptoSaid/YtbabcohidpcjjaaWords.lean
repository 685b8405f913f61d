/-
  Words of a list: is a text one of them? Plain facts. No conditions beyond those that each lemma types.
-/
import Derived.Test.YtbabcohidpcjjaaMem
namespace Go.Proofs.Ytbabcohidpcjjaa
open Go Go.RowKit Mem

def isW (l : List ByteArray) (word : ByteArray) : Bool := l.any fun x => word.toList == x.toList
theorem isW_lit {names : List ByteArray} {x : ByteArray} {l : List UInt8} (h : (x.toList == l) = true) (hm : (names.any fun y => l == y.toList) = true) : isW names x = true := by
  have : x.toList = l := by simpa using h
  rw [isW, this]
  exact hm
theorem clash {x l : List UInt8} (h : (x == l) = true) (h' : (x == l) = false) {p : Prop} : p := by rw [h] at h'; cases h'
end Go.Proofs.Ytbabcohidpcjjaa
