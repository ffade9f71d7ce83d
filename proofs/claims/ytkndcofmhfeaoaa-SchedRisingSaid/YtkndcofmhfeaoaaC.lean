/- The opened latches: a map from numbers to bools, as a list of its keys. -/
import Derived.Test.YtkndcofmhfeaoaaB
namespace Go.Proofs.Ytkndcofmhfeaoaa
open Go.RowKit Go.Maps
set_option linter.unusedVariables false
set_option linter.unusedSimpArgs false
def inD (l : List Int) (x : Int) (z : DataW Unit) : DataW Unit := if x ∈ l then .lit (.bool true) else z
set_option maxRecDepth 100000 in
theorem boolR_inv {v : Value} {b : Bool} {ps : List MemPlace} (h : (plainElem (H := Unit) Try.prog 4) v = some (.lit (.bool b), ps)) : v = .bool b := by
  unfold plainElem at h
  rw [Try.underlying4] at h
  cases v <;> simp at h
  rw [h.1]
structure OMap (w : World) (bm : Nat) (l : List Int) : Prop where
  map : ∃ D, w.ownsMap Try.prog 3 (plainElem (H := Unit) Try.prog 4) bm l.length D ∧ ∀ x z, D.atKey (.int .i64 x) z = inD l x z
section
variable {w w' : World} {bm : Nat} {l : List Int}
theorem OMap.made (w : World) : OMap (w.alloc (.map #[] 0)) w.heap.size [] := ⟨_, World.ownsMap_made w Try.prog 3 _, fun x z => by unfold inD; simp; rfl⟩
theorem OMap.lt (h : OMap w bm l) : bm < w.heap.size := by obtain ⟨D, hD, -⟩ := h; exact hD.lt
theorem OMap.isMap (h : OMap w bm l) : ∃ es clock, w.heap[bm]? = some (.map es clock) := by obtain ⟨D, ⟨es, clock, h, -⟩, -⟩ := h; exact ⟨es, clock, h⟩
theorem OMap.block (h : OMap w bm l) (hb : w'.heap[bm]? = w.heap[bm]?) : OMap w' bm l := by
  obtain ⟨D, ⟨es, clock, h1, h2, h3, h4⟩, h5⟩ := h
  exact ⟨D, ⟨es, clock, hb.trans h1, h2, h3, h4⟩, h5⟩
theorem OMap.turn {F : Nat → Prop} (h : OMap w bm l) (ht : Turn F w w') (hF : ¬ F bm) : OMap w' bm l := h.block (ht.block bm h.lt hF)
theorem OMap.alloc (h : OMap w bm l) (o : Obj) : OMap (w.alloc o) bm l := h.block (Below.heap_alloc _ _ _ h.lt)
theorem OMap.look (h : OMap w bm l) (hz : (zeroValue 4).run Try.prog w = .ok (.bool false) w) {x : Int} (hx : (Lit.int .i64 x).wf = true) :
    (Instr.lookup 55 (.map (some bm)) (.int .i64 x) false).run Try.prog w = .ok (.bool (decide (x ∈ l))) w := by
  obtain ⟨D, hown, hat⟩ := h
  obtain ⟨v, ps, hrun, hv⟩ := hown.lookup (int_keyed Try.underlying3) Try.underlying55 hz (zd := .lit (.bool false)) (zp := []) (plainElem_bool Try.underlying4 false) (keyOf_int_mk Try.underlying3 hx)
  rw [hat] at hv
  rw [hrun]
  have e : inD l x (.lit (.bool false)) = .lit (.bool (decide (x ∈ l))) := by unfold inD; by_cases h : x ∈ l <;> simp [h]
  rw [e] at hv
  rw [boolR_inv hv]
theorem OMap.store (h : OMap w bm l) (hn : l.length < maxLen) {x : Int} (hx : (Lit.int .i64 x).wf = true) :
    ∃ w', (Instr.mapUpdate 55 (.map (some bm)) (.int .i64 x) (.bool true)).run Try.prog w = .ok () w' ∧ OMap w' bm (l ++ [x]) ∧ w.mapTurned w' bm := by
  obtain ⟨D, hown, hat⟩ := h
  obtain ⟨w', hrun, hown', hturn⟩ := hown.store (int_keyed Try.underlying3) Try.underlying55 hn (keyOf_int_mk Try.underlying3 hx) (plainElem_bool Try.underlying4 true)
  have ht' := hown.tidy (int_keyed Try.underlying3)
  refine ⟨w', hrun, ⟨_, hown'.mono (by simp), fun y z => ?_⟩, hturn⟩
  by_cases e : y = x
  · subst e
    rw [atKey_put_same ht'.isMap (by trivial)]
    simp [inD]
  · rw [atKey_put_other (by simpa using e), hat]
    simp [inD, e]
end
end Go.Proofs.Ytkndcofmhfeaoaa
