/-
  A law's own row of numbers beside a list of layer 15: what holds of both.
-/
import Derived.Test.YtidbihdnginmcaaThrA
namespace Go.Proofs.Ytidbihdnginmcaa
open Go.RowKit Mem

/-- the list (entries ent) and the law's own row v (numbers own), which lies above B0 -/
def LX (w0 : World) (B0 tb sb lb xb : Nat) (v : Value) (T : TreeD) (l ent own : List Int) (u : World) : Prop :=
  LI w0 0 tb sb lb (fun k => k = xb ∨ v.ownBlock = some k) T l ent false u ∧ WS xb tb sb lb u ∧ u.ownsRow B0 3 1 v own.length (intsV own) ∧ w0.heap.size ≤ B0 ∧ xb < B0 ∧ B0 ≤ u.heap.size
theorem own_less {w : World} {A B : Nat} {e : TypeId} {s n : Nat} {v : Value} {xs : List Value} (h : w.ownsRow B e s v n xs) (hA : A ≤ B) : w.ownsRow A e s v n xs := by
  refine ⟨h.1, ?_⟩
  rcases h.2 with h' | ⟨g, cap, cur, h1, h2, h3⟩
  · exact .inl h'
  · exact .inr ⟨g, cap, cur, h1, Nat.le_trans hA h2, h3⟩
section
variable {w0 u u' : World} {B0 tb sb lb xb : Nat} {v v' : Value} {T T' : TreeD} {l l' ent ent' own own' : List Int}
theorem LX.world (h : LX w0 B0 tb sb lb xb v T l ent own u) (hb : Below u.heap.size u u') : LX w0 B0 tb sb lb xb v T l ent own u' := by
  obtain ⟨h1, h2, h3, h4, h5, h6⟩ := h
  exact ⟨h1.world hb, h2.below hb, own_below h3 hb, h4, h5, Nat.le_trans h6 hb.size⟩
theorem LX.call (h : LX w0 B0 tb sb lb xb v T l ent own u) (hl : LI w0 0 tb sb lb (fun k => k = xb ∨ v.ownBlock = some k) T' l' ent' false u') (hk : Keeps (Own w0 fun k => k = xb ∨ v.ownBlock = some k) u u') : LX w0 B0 tb sb lb xb v T' l' ent' own u' := by
  obtain ⟨h1, h2, h3, h4, h5, h6⟩ := h
  exact ⟨hl, h2.kept (ex := fun k => k = xb ∨ v.ownBlock = some k) (.inl rfl) hk, own_kept h3 fun b hb => hk.block b (h3.lt b hb).2 fun hx => hx.2 (.inr hb), h4, h5, Nat.le_trans h6 hk.size⟩
theorem LX.grow (h : LX w0 B0 tb sb lb xb v T l ent own u) (ho : u'.ownsRow B0 3 1 v' own'.length (intsV own')) (hg : u.grownBy u' v.ownBlock) (hv : ∀ k, v'.ownBlock = some k → v.ownBlock = some k ∨ u.heap.size ≤ k) : LX w0 B0 tb sb lb xb v' T l ent own' u' := by
  obtain ⟨h1, h2, h3, h4, h5, h6⟩ := h
  have hk : Keeps (fun k => v.ownBlock = some k) u u' := stk_grown (Keeps.refl _ _) hg fun k hk => .inl hk
  obtain ⟨z, hz⟩ := h2
  have hx : xb < u.heap.size := by omega
  refine ⟨h1.foreign hk (fun k hk' => ⟨.inr hk', by have := (h3.lt k hk').1; omega⟩) (fun k hk' => ?_), ⟨z, hz.kept (hk.block xb hx fun e => by have := (h3.lt xb e).1; omega)⟩, ho, h4, h5, Nat.le_trans h6 hk.size⟩
  rcases hk' with rfl | e
  · exact ⟨.inl (.inl rfl), Nat.lt_of_lt_of_le hx hk.size⟩
  · exact ⟨(hv k e).imp .inr id, (ho.lt k e).2⟩
/-- a row that is made anew -/
theorem LX.fresh (h : LX w0 B0 tb sb lb xb v T l ent own u) (hb : Below u.heap.size u u') (ho : u'.ownsRow u.heap.size 3 1 v' own'.length (intsV own')) : LX w0 B0 tb sb lb xb v' T l ent own' u' := by
  obtain ⟨h1, h2, h3, h4, h5, h6⟩ := h
  have hx : xb < u.heap.size := by omega
  refine ⟨h1.foreign (F := fun _ => False) (Keeps.ofBelow hb) (fun _ h => h.elim) (fun k hk' => ?_), h2.below hb, own_less ho h6, h4, h5, Nat.le_trans h6 hb.size⟩
  rcases hk' with rfl | e
  · exact ⟨.inl (.inl rfl), Nat.lt_of_lt_of_le hx hb.size⟩
  · exact ⟨.inr (ho.lt k e).1, (ho.lt k e).2⟩
/-- an element is inserted: the world behind, and its name -/
theorem LX.ins {es : List EN} {x : ByteArray} {at' : List Pair} {b : Nat} (h : LX w0 B0 tb sb lb xb v (chainT 600 es) (upN es.length) ent own u) (hl : es.length < 600) (hn : at'.length = 2) (ha : At u (some ⟨b, 0, none⟩) (pairsV at')) :
    Calls Try.prog 37 #[.pointer (some ⟨lb, 0, none⟩), .int .i64 0, .string x, .slice (some ⟨b, 0, none⟩) 2 2] u fun e u' =>
      e = .returned (.tuple #[.int .i64 (es.length + 1), .int .i64 0]) ∧ LX w0 B0 tb sb lb xb v (chainT 600 (es ++ [(x, at')])) (upN (es ++ [(x, at')]).length) ent own u' := by
  have := Insert_li h.1 (by rw [upN_len]; omega) 0 x at' 2 (some ⟨b, 0, none⟩) 2 hn.symm (fun h => by cases h) (by omega) ha
  rw [ins_step 600 es (x, at') (by omega)] at this
  refine this.mono ?_
  rintro e u' ⟨rfl, h1, k1⟩
  exact ⟨rfl, by rw [List.length_append]; exact h.call h1 k1⟩
/-- one number is put at the end of the row -/
theorem LX.push1 {n : Int} {oa : Option Addr} {oc g cap H : Nat} (h : LX w0 B0 tb sb lb xb (.slice oa own.length oc) T l ent own u) (ho : u'.ownsRow B0 3 1 (.slice (some ⟨g, 0, none⟩) (own.length + 1) cap) (own.length + 1) (intsV own ++ intsV [n])) (hg : u.grownBy u' (Value.slice oa own.length oc).ownBlock)
    (ha : (Value.slice oa own.length oc).ownBlock = some g ∨ g = H) (hH : u.heap.size = H) : LX w0 B0 tb sb lb xb (.slice (some ⟨g, 0, none⟩) (own ++ [n]).length cap) T l ent (own ++ [n]) u' := by
  refine h.grow ?_ hg fun k hk => ?_
  · rw [List.length_append, intsV_append]
    exact ho
  · simp only [Value.ownBlock, Option.some.injEq] at hk
    subst hk
    exact ha.imp id fun e => by omega
theorem LX.below (h : LX w0 B0 tb sb lb xb v T l ent own u) : Below w0.heap.size w0 u := h.1.below
theorem LX.cells (h : LX w0 B0 tb sb lb xb v T l ent own u) : u.cell? ⟨xb, 0, none⟩ = some (.pointer (some ⟨tb, 0, none⟩)) ∧ u.cell? ⟨xb, 1, none⟩ = some (.pointer (some ⟨sb, 0, none⟩)) ∧ u.cell? ⟨xb, 2, none⟩ = some (.pointer (some ⟨lb, 0, none⟩)) := h.2.1.cells
end
end Go.Proofs.Ytidbihdnginmcaa
