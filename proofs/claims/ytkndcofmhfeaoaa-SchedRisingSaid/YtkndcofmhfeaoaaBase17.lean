/- A slice of texts that can be read. -/
import Derived.Test.YtkndcofmhfeaoaaBase14
namespace Go.Proofs.Ytkndcofmhfeaoaa
open Go.RowKit
set_option linter.unusedVariables false
set_option linter.unusedSimpArgs false

/-- a slice of texts that can be read -/
def RowS (B : Nat) (w : World) (v : Value) (l : List ByteArray) : Prop := Row B w v l.length 1 (l.map Value.string)
theorem RowS.mono {B B' : Nat} {w w' : World} {v : Value} {l : List ByteArray} (h : RowS B w v l) (hb : Below B w w') (hB : B ≤ B') : RowS B' w' v l := Row.mono h hb hB
theorem RowS.nil (B : Nat) (w : World) : RowS B w (.slice none 0 0) [] := Row.nil B w 1
theorem RowS.of_owns {w : World} {base : Nat} {e : TypeId} {v : Value} {n : Nat} {l : List ByteArray} (h : w.ownsRow base e 1 v n (l.map Value.string)) : RowS w.heap.size w v l := by
  have hn : n = l.length := by have := h.1; simpa using this.symm
  subst hn; exact Row.of_owns h
theorem RowS.open {B : Nat} {w : World} {v : Value} {l : List ByteArray} (h : RowS B w v l) : ∃ a cap, v = .slice a l.length cap ∧ l.length ≤ cap ∧ cap ≤ 9223372036854775807 ∧
    (0 < l.length → ∃ b off, a = some ⟨b, off, none⟩ ∧ b < B ∧ ∀ j, j < l.length → w.cell? ⟨b, off + j, none⟩ = some (.string (l.getD j ByteArray.empty))) := by
  obtain ⟨hl, a, cap, hv, h1, h2, h3⟩ := h
  refine ⟨a, cap, hv, h1, by simpa [maxLen] using h2, fun hn => ?_⟩
  obtain ⟨b, off, ha, hb', hc⟩ := h3 hn
  refine ⟨b, off, ha, hb', fun j hj => ?_⟩
  rw [hc j (by omega)]
  simp [List.getD_eq_getElem?_getD, hj]
theorem getD_mem {α : Type} {l : List α} {d : α} {k : Nat} (h : k < l.length) : l.getD k d ∈ l := by
  rw [List.getD_eq_getElem?_getD, List.getElem?_eq_getElem h]; exact List.getElem_mem h
theorem foldl_take {α β : Type} (f : β → α → β) (x : β) (l : List α) (d : α) (k : Nat) (h : k < l.length) : (l.take (k + 1)).foldl f x = f ((l.take k).foldl f x) (l.getD k d) := by
  rw [List.take_add_one, List.getElem?_eq_getElem h, List.foldl_append, List.getD_eq_getElem?_getD, List.getElem?_eq_getElem h]
  rfl
end Go.Proofs.Ytkndcofmhfeaoaa
