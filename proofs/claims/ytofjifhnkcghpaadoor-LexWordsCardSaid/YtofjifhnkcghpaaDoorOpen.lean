/- Opening arguments: structs and arrays of numbers. -/
import Derived.Test.YtofjifhnkcghpaaDoorBase3
import Derived.ProofKit
import Derived.OpenShut
namespace Go.Proofs.YtofjifhnkcghpaaDoor
open Go.RowKit Go.WideShapes
set_option linter.unusedVariables false
set_option linter.unusedSimpArgs false

theorem open_intCells {P : Program} {w : World} {r : Reach} {base : Nat} {e : TypeId} {n : Nat} (hu : P.underlying e = some (.int .i64)) :
    ∀ (cs : List Value), (∀ i v, cs[i]? = some v → ∃ u, (List.replicate n e)[i % n]? = some u ∧ Cell.okWide P w r base u v) → ∃ l : List Int, cs = l.map (Value.int .i64) ∧ ∀ x ∈ l, (Lit.int .i64 x).wf = true := by
  intro cs h
  have hx : ∀ v ∈ cs, ∃ x, v = .int .i64 x ∧ (Lit.int .i64 x).wf = true := by
    intro v hv
    obtain ⟨i, hi, hiv⟩ := List.getElem_of_mem hv
    obtain ⟨u, hu1, hu2⟩ := h i v (by rw [List.getElem?_eq_getElem hi, hiv])
    have : u = e := by
      have := List.getElem?_eq_some_iff.1 hu1
      obtain ⟨_, h2⟩ := this
      simpa using h2.symm
    subst this
    simp only [Cell.okWide, hu] at hu2
    cases v <;> simp_all [Cell.ok]
    obtain ⟨rfl, h3⟩ := hu2
    simpa [IntKind.has, Lit.wf] using h3
  clear h
  induction cs with
  | nil => exact ⟨[], rfl, by simp⟩
  | cons v cs ih =>
    obtain ⟨x, rfl, wx⟩ := hx v (by simp)
    obtain ⟨l, rfl, wl⟩ := ih (fun v hv => hx v (by simp [hv]))
    exact ⟨x :: l, rfl, by intro y hy; simp at hy; rcases hy with rfl | hy; exact wx; exact wl y hy⟩

theorem open_intRow {P : Program} {w : World} {r : Reach} {base : Nat} {t e : TypeId} {n : Nat} {d : TypeDesc} {v : Value} (ht : P.underlying t = some d)
    (hd : (match d with | .struct _ | .array _ _ => true | _ => false) = true) (hc : P.cellTypes P.depth t = some (List.replicate n e)) (hu : P.underlying e = some (.int .i64)) (hs : P.cellsOf t = n)
    (h : Value.okWide P w r base t v) : ∃ l : List Int, v = .agg (ints l) ∧ l.length = n ∧ ∀ x ∈ l, (Lit.int .i64 x).wf = true := by
  have h' : ∃ cs, v = .agg cs ∧ cs.size = P.cellsOf t ∧ Row.okWide P w r base t cs := by
    unfold Value.okWide at h
    rw [ht] at h
    cases d <;> simp at hd <;> exact h
  obtain ⟨cs, rfl, hz, ts, hts, _, hcell⟩ := h'
  rw [hc] at hts
  obtain rfl := Option.some.inj hts
  simp only [List.length_replicate] at hcell
  obtain ⟨l, hl, wl⟩ := open_intCells (n := n) hu cs.toList (fun i v hi => hcell i v (by simpa using hi))
  have hcs : cs = ints l := by unfold ints; rw [← hl]
  subst hcs
  exact ⟨l, rfl, by rw [size_ints] at hz; omega, wl⟩

theorem wf_bd {x : Int} (h : (Lit.int .i64 x).wf = true) : -9223372036854775808 ≤ x ∧ x ≤ 9223372036854775807 := by
  have hmin : IntKind.i64.min = -9223372036854775808 := rfl
  have hmax : IntKind.i64.max = 9223372036854775807 := rfl
  simp only [Lit.wf, Bool.and_eq_true, decide_eq_true_eq] at h
  omega

end Go.Proofs.YtofjifhnkcghpaaDoor
