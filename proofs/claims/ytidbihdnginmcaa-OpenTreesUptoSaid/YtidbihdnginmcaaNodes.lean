/-
  Nodes with all below them: plain data, and how they lie in the memory of the model. No conditions beyond those that each lemma types.
-/
import Derived.Test.YtidbihdnginmcaaMemD
import Derived.Laws.ResultCell
namespace Go.Proofs.Ytidbihdnginmcaa.Mem
open Go Go.RowKit

inductive NT where
  | mk (kind space : Int) (name : ByteArray) (attrs : List Pair) (text : ByteArray) (kids : List NT)

def nodeV (kind space : Int) (name : ByteArray) (a : Option Addr) (n c : Nat) (text : ByteArray) (ka : Option Addr) (kn kc : Nat) : List Value :=
  [.int .i64 kind, .int .i64 space, .string name, .slice a n c, .string text, .slice ka kn kc]

/-- the six cells of a node, and what they point to, in blocks outside F -/
inductive NodeC (F : Nat → Prop) (w : World) : List Value → NT → Prop
  | mk {kind space : Int} {name : ByteArray} {a : Option Addr} {c : Nat} {attrs : List Pair} {text : ByteArray} {ka : Option Addr} {kc : Nat} {kids : List NT} (css : List (List Value))
      (h1 : attrs.length ≤ c) (h2 : c ≤ maxLen) (h3 : a = none → c = 0) (h4 : AtF F w a (pairsV attrs))
      (k1 : kids.length ≤ kc) (k2 : kc ≤ maxLen) (k3 : ka = none → kc = 0) (k4 : AtF F w ka css.flatten) (hl : css.length = kids.length)
      (hk : ∀ i (h : i < css.length) (h' : i < kids.length), NodeC F w css[i] kids[i]) : NodeC F w (nodeV kind space name a attrs.length c text ka kids.length kc) (.mk kind space name attrs text kids)

theorem NodeC.len {F : Nat → Prop} {w : World} {cs : List Value} {n : NT} (h : NodeC F w cs n) : cs.length = 6 := by
  cases h; rfl
theorem NodeC.kept {F : Nat → Prop} {w w' : World} {cs : List Value} {n : NT} (h : NodeC F w cs n) (hk : Keeps F w w') : NodeC F w' cs n := by
  induction h with
  | mk css h1 h2 h3 h4 k1 k2 k3 k4 hl _ ih => exact .mk css h1 h2 h3 (h4.kept hk) k1 k2 k3 (k4.kept hk) hl fun i h h' => ih i h h'
theorem NodeC.other {F G : Nat → Prop} {w : World} {cs : List Value} {n : NT} (h : NodeC F w cs n) (hFG : ∀ b, b < w.heap.size → G b → F b) : NodeC G w cs n := by
  induction h with
  | mk css h1 h2 h3 h4 k1 k2 k3 k4 hl _ ih => exact .mk css h1 h2 h3 (h4.other hFG) k1 k2 k3 (k4.other hFG) hl fun i h h' => ih i h h'

/-- cell lists of six each -/
theorem flat6 : ∀ (Cs : List (List Value)), (∀ c ∈ Cs, c.length = 6) → Cs.flatten.length = Cs.length * 6
  | [], _ => rfl
  | c :: r, h => by
    rw [List.flatten_cons, List.length_append, flat6 r fun x hx => h x (List.mem_cons_of_mem _ hx), h c List.mem_cons_self, List.length_cons]
    omega
theorem flat6_get : ∀ (Cs : List (List Value)) (i f : Nat) (hi : i < Cs.length), (∀ c ∈ Cs, c.length = 6) → f < 6 → Cs.flatten[i * 6 + f]? = Cs[i][f]?
  | [], _, _, hi, _, _ => by simp at hi
  | c :: r, 0, f, _, h, hf => by
    rw [List.flatten_cons, List.getElem?_append_left (by rw [h c List.mem_cons_self]; omega)]
    simp
  | c :: r, i + 1, f, hi, h, hf => by
    have h6 := h c List.mem_cons_self
    rw [List.flatten_cons, List.getElem?_append_right (by rw [h6]; omega), h6, show (i + 1) * 6 + f - 6 = i * 6 + f from by omega]
    rw [flat6_get r i f (by simpa using hi) (fun x hx => h x (List.mem_cons_of_mem _ hx)) hf]
    simp

/-- a node comes back by value, with a number -/
theorem ret_node {P : Program} {fn : Func} {p q : Tmp} {ty : TypeId} (h : fn.results = #[.cell p ty, .tmp q]) (tmps : Array Value) (w : World) (g : Nat) (t : TypeId) (cs : Array Value) (fr : Nat × Nat) (d : TypeDesc) (u : Value)
    (hp : tmps.getD p undef = .pointer (some ⟨g, 0, none⟩)) (hq : tmps.getD q undef = u) (hg : w.heap[g]? = some (.cells cs t fr))
    (hu : P.underlying ty = some d) (hd : (match d with | .struct _ | .array _ _ => true | _ => false) = true) (hi : (P.info? ty).map (·.size) = some cs.size) :
    (results fn tmps).run P w = .ok (.tuple #[.agg cs, u]) w := by
  have hp' : tmps.getD p undef = .pointer (some ⟨g, 0, none⟩) := hp
  rw [results_cell_tmp h, hp', hq]
  simp [asAddr, Result.andThen, run_loadVar_row w g t ty cs fr d hg hu hd hi]
end Go.Proofs.Ytidbihdnginmcaa.Mem
