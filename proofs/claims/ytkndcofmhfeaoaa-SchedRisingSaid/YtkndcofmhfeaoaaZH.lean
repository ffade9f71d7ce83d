/- SchedRising's walk, both cases together. -/
import Derived.Test.YtkndcofmhfeaoaaZG
namespace Go.Proofs.Ytkndcofmhfeaoaa
open Go.RowKit Go.Maps
set_option linter.unusedVariables false
theorem wf_le3 {x : Int} (h : (Lit.int .i64 x).wf = true) : -9223372036854775808 ≤ x ∧ x ≤ 9223372036854775807 := by
  simp only [Lit.wf, Bool.and_eq_true, decide_eq_true_eq] at h
  exact ⟨Int.le_trans (by decide) h.1, Int.le_trans h.2 (by decide)⟩
theorem risingLaw (v0 v1 : Value) (w : World) (wants : List (List Int)) (h0 : RowII w.heap.size w v0 wants) (_x0 : ∀ l ∈ wants, ∀ y ∈ l, (Lit.int .i64 y).wf = true) (pk : List Int) (h1 : Row w.heap.size w v1 pk.length 1 (pk.map (Value.int .i64))) (hwf : ∀ y ∈ pk, (Lit.int .i64 y).wf = true) (_hsz : pk.length * 8 ≤ 140737488351232) :
    Calls Try.prog 4 #[v0, v1] w fun e w' => e = .returned (.bool true) ∧ Below w.heap.size w w' := by
  have hp : ∀ k, k < pk.length → -9223372036854775808 ≤ pk.getD k 0 ∧ pk.getD k 0 ≤ 9223372036854775807 := fun k hk => by
    rw [List.getD_eq_getElem?_getD, List.getElem?_eq_getElem hk]
    exact wf_le3 (hwf _ (List.getElem_mem hk))
  by_cases h : wants.length ≤ 12
  · exact rising4a wants pk v0 v1 w h h0 h1 hp
  · exact rising4b wants pk v0 v1 w (by omega) h0 h1 hp
end Go.Proofs.Ytkndcofmhfeaoaa
