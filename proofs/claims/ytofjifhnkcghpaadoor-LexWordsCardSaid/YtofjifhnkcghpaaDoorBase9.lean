/- More of Base4: an operation of a region that draws its order, carried out where it stands; two that may come up. -/
import Derived.Test.YtofjifhnkcghpaaDoorBase8
namespace Go.Proofs.YtofjifhnkcghpaaDoor
open Go.RowKit
set_option linter.unusedVariables false
set_option linter.unusedSimpArgs false

section
variable {P : Program} {ops : Array Oper} {Q : Exit → Act → World → Prop} {S : World → Prop} {fuel : Nat} {listed : Array Bool} {a : Act} {w : World} {K : Act → World → Prop}

theorem wpOp_call (i : Nat) (d : Option Tmp) {o : Oper} (hi : ops[i]? = some o) (hd : o.dst = d) (hw : Region.wanted o (yielded ops a.tmps) = true)
    (f : FuncId) (args : Array Value) (hx : (execOp a.eval o).run P w = .ok (.enter f args) w)
    (hc : Calls P f args w fun e w' => ∃ v, e = .returned v ∧ K (a.put d v) w') : wpOp P ops Q i K a w := by
  subst hd
  unfold wpOp
  simp only [hi, hw, if_true]
  refine .inl ?_
  unfold Oper.wp
  rw [hx]
  refine hc.mono fun e w' h => ?_
  obtain ⟨v, rfl, h2⟩ := h
  exact h2
theorem wpOp_val (i : Nat) (d : Option Tmp) {o : Oper} (hi : ops[i]? = some o) (hd : o.dst = d) (hw : Region.wanted o (yielded ops a.tmps) = true)
    (v : Value) (w' : World) (hx : (execOp a.eval o).run P w = .ok (.value v) w') (h : K (a.put d v) w') : wpOp P ops Q i K a w := by
  subst hd
  unfold wpOp
  simp only [hi, hw, if_true]
  refine .inl ?_
  unfold Oper.wp
  rw [hx]
  exact h
theorem hp_val (i : Nat) (d : Option Tmp) {o : Oper} (hi : ops[i]? = some o) (hd : o.dst = d) (hr : Region.ready .any ops listed = [i]) (hw : Region.wanted o (yielded ops a.tmps) = true)
    (v : Value) (w' : World) (hx : (execOp a.eval o).run P w = .ok (.value v) w') (hS : S w')
    (h : wpAnyH P .any ops Q S fuel (listed.setIfInBounds i true) (a.put d v) w') : wpAnyH P .any ops Q S (fuel + 1) listed a w := by
  refine wpAnyH_all hr (by simp) fun j hj => ?_
  obtain rfl : j = i := by simpa using hj
  exact wpOp_val j d hi hd hw v w' hx ⟨hS, h⟩
theorem hp_two (i j : Nat) (hr : Region.ready .any ops listed = [i, j])
    (h1 : wpOp P ops Q i (fun a' w' => S w' ∧ wpAnyH P .any ops Q S fuel (listed.setIfInBounds i true) a' w') a w)
    (h2 : wpOp P ops Q j (fun a' w' => S w' ∧ wpAnyH P .any ops Q S fuel (listed.setIfInBounds j true) a' w') a w) : wpAnyH P .any ops Q S (fuel + 1) listed a w := by
  refine wpAnyH_all hr (by simp) fun l hl => ?_
  simp only [List.mem_cons, List.not_mem_nil, or_false] at hl
  rcases hl with rfl | rfl
  · exact h1
  · exact h2
end
end Go.Proofs.YtofjifhnkcghpaaDoor
