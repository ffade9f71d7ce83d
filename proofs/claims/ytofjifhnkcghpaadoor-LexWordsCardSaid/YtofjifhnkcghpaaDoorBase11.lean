/- More of Base9: two operations that may come up in either order, and do not hang on each other. -/
import Derived.Test.YtofjifhnkcghpaaDoorBase9
namespace Go.Proofs.YtofjifhnkcghpaaDoor
open Go.RowKit
set_option linter.unusedVariables false
set_option linter.unusedSimpArgs false

theorem hp_pair {P : Program} {ops : Array Oper} {Q : Exit → Act → World → Prop} {S : World → Prop} {fuel : Nat} {listed : Array Bool} {a : Act} {w : World} (i j : Nat) (di dj : Tmp) (vi vj : Value) (w' : World) {oi oj : Oper} (hij : i ≠ j) (hdd : di ≠ dj)
    (hi : ops[i]? = some oi) (hj : ops[j]? = some oj) (hdi : oi.dst = some di) (hdj : oj.dst = some dj) (hr : Region.ready .any ops listed = [i, j])
    (hri : Region.ready .any ops (listed.setIfInBounds i true) = [j]) (hrj : Region.ready .any ops (listed.setIfInBounds j true) = [i])
    (hgi : oi.guard = none) (hgj : oj.guard = none)
    (x1 : (execOp a.eval oi).run P w = .ok (.value vi) w) (x2 : (execOp (a.put (some dj) vj).eval oi).run P w' = .ok (.value vi) w')
    (x3 : (execOp a.eval oj).run P w = .ok (.value vj) w') (x4 : (execOp (a.put (some di) vi).eval oj).run P w = .ok (.value vj) w') (hS : S w) (hS' : S w')
    (h : wpAnyH P .any ops Q S fuel ((listed.setIfInBounds i true).setIfInBounds j true) ((a.put (some di) vi).put (some dj) vj) w') : wpAnyH P .any ops Q S (fuel + 1 + 1) listed a w := by
  have wi : ∀ a : Act, Region.wanted oi (yielded ops a.tmps) = true := fun a => by simp [Region.wanted, hgi]
  have wj : ∀ a : Act, Region.wanted oj (yielded ops a.tmps) = true := fun a => by simp [Region.wanted, hgj]
  refine hp_two i j hr ?_ ?_
  · refine wpOp_val i (some di) hi hdi (wi _) vi w x1 ⟨hS, ?_⟩
    exact hp_val j (some dj) hj hdj hri (wj _) vj w' x4 hS' h
  · refine wpOp_val j (some dj) hj hdj (wj _) vj w' x3 ⟨hS', ?_⟩
    refine hp_val i (some di) hi hdi hrj (wi _) vi w' x2 hS' ?_
    rw [Array.setIfInBounds_comm _ _ (Ne.symm hij)]
    have e : (a.put (some dj) vj).put (some di) vi = (a.put (some di) vi).put (some dj) vj := by
      simp only [Act.put]
      rw [Array.setIfInBounds_comm _ _ (Ne.symm hdd)]
    rw [e]
    exact h
end Go.Proofs.YtofjifhnkcghpaaDoor
