/- Opening a slice of int64s, with their bounds. -/
import Derived.Test.YtofjifhnkcghpaaDoorBase7
namespace Go.Proofs.YtofjifhnkcghpaaDoor
open Go.RowKit Go.WideShapes Go.ChangeShapes
set_option linter.unusedVariables false
set_option linter.unusedSimpArgs false

theorem open_intsW {H : Type} {enc : TypeId × Value → H} {P : Program} {w : World} {base : Nat} {sp : Nat → Bool} {held : Bool} {t e : TypeId} (ht : P.underlying t = some (.slice e)) (hc : P.cellsOf e = 1) (he : P.underlying e = some (.int .i64))
    {v : Value} {d : DataW H} {ps : List MemPlace} (hv : ∃ a len cap, v = .slice a len cap) (hd : DataW.Trod enc P w base sp held t v d ps) :
    ∃ ms : List Int, Row w.heap.size w v ms.length 1 (ms.map (Value.int .i64)) ∧ (∀ y ∈ ms, (Lit.int .i64 y).wf = true) ∧ (ms.length = 0 ∨ ∃ el s, d = .slice el s ∧ el.length = ms.length) := by
  obtain ⟨n, xs, hr, hok, hs⟩ := open_rows (okc := fun cs => ∃ x : Int, cs = [.int .i64 x] ∧ (Lit.int .i64 x).wf = true) ht hc (by omega) (fun n cs x h => by obtain ⟨b, rfl, -, hw⟩ := DataW.trod_int he h; exact ⟨b, rfl, hw⟩) hv hd
  have hl : xs.length = n := by have := hr.len; omega
  have each : ∀ i (h : i < xs.length), ∃ x : Int, xs[i] = .int .i64 x ∧ (Lit.int .i64 x).wf = true := by
    intro i h1
    obtain ⟨b, hb, hw⟩ := hok i (by omega)
    rw [Nat.mul_one, List.drop_eq_getElem_cons h1] at hb
    injection hb with hb _
    exact ⟨b, hb, hw⟩
  have e : xs = (xs.map fun v => numAt (some v)).map (Value.int .i64) := by
    apply List.ext_getElem
    · simp
    · intro i h1 h2
      obtain ⟨b, hb, -⟩ := each i h1
      simp [hb, numAt]
  refine ⟨xs.map fun v => numAt (some v), ?_, ?_, ?_⟩
  · rw [← e, List.length_map, hl]; exact hr
  · intro y hy
    obtain ⟨v, hv, rfl⟩ := List.mem_map.1 hy
    obtain ⟨i, hi, rfl⟩ := List.getElem_of_mem hv
    obtain ⟨b, hb, hw⟩ := each i hi
    rw [hb]; exact hw
  · rw [List.length_map, hl]; exact hs
end Go.Proofs.YtofjifhnkcghpaaDoor
