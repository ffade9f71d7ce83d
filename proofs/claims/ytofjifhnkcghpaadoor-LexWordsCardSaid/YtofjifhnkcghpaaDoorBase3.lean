/- A REGION THAT DRAWS ITS ORDER, whose operations only read and whose calls leave all that was there as it was: one walk in the order of the text. -/
import Derived.Test.YtofjifhnkcghpaaDoorBase2
namespace Go.Proofs.YtofjifhnkcghpaaDoor
open Go.RowKit
set_option linter.unusedVariables false
set_option linter.unusedSimpArgs false

/-- the walk's word: each operation has one value in every world that is w below its heap's size -/
abbrev wpB (P : Program) (ops : Array Oper) (w : World) (Q : Act → Prop) (l : List Oper) (a : Act) : Prop := wpQuiet P ops (fun w' => Below w.heap.size w w') Q l a

theorem wp_region_below {P : Program} {id : Nat} {Q : Exit → Act → World → Prop} {a : Act} {w : World} {l : List Oper} (hm : P.follows .mixedOrders = true) (hB : Region.lexB .any l.toArray = true)
    (h : wpB P l.toArray w (fun a' => ∀ w', Below w.heap.size w w' → Q .normal a' w') l a) : (Code.region id l.toArray true).wp P Q a w :=
  wp_region_quiet (C := fun w' => Below w.heap.size w w') hm hB ((Below.refl _ _).drew) (by simpa using h)

section
variable {P : Program} {ops : Array Oper} {w : World} {Q : Act → Prop} {rest : List Oper} {o : Oper} {a : Act}

theorem qb_pure (hw : Region.wanted o (yielded ops a.tmps) = true) (v : Value) (hv : ∀ w', Below w.heap.size w w' → (execOp a.eval o).run P w' = .ok (.value v) w')
    (h : wpB P ops w Q rest (a.put o.dst v)) : wpB P ops w Q (o :: rest) a :=
  wpQuiet_step fun K hK => by
    simp only [hw, if_true]
    refine ⟨v, fun w' hB => ?_, hK _ h⟩
    unfold Oper.quietAt
    rw [hv w' hB]
    exact ⟨rfl, rfl⟩

theorem qb_skip (hw : Region.wanted o (yielded ops a.tmps) = false) (h : wpB P ops w Q rest (a.put o.dst undef)) : wpB P ops w Q (o :: rest) a :=
  wpQuiet_step fun K hK => by
    simp only [hw, Bool.false_eq_true, if_false]
    exact hK _ h

theorem qb_call (hw : Region.wanted o (yielded ops a.tmps) = true) (f : FuncId) (args : Array Value) (v : Value)
    (hx : ∀ w', (execOp a.eval o).run P w' = .ok (.enter f args) w')
    (hc : ∀ w', Below w.heap.size w w' → Calls P f args w' fun e w'' => e = .returned v ∧ Below w'.heap.size w' w'')
    (h : wpB P ops w Q rest (a.put o.dst v)) : wpB P ops w Q (o :: rest) a :=
  wpQuiet_step fun K hK => by
    simp only [hw, if_true]
    refine ⟨v, fun w' hB => ?_, hK _ h⟩
    unfold Oper.quietAt
    rw [hx w']
    exact ⟨rfl, (hc w' hB).mono fun e w'' hh => ⟨hh.1, hB.trans (hh.2.mono hB.size)⟩⟩

theorem qb_load_at (hw : Region.wanted o (yielded ops a.tmps) = true) (ty : TypeId) (x : Operand) (ho : o.op = .load ty x)
    (b off : Nat) (hx : a.eval x = .pointer (some ⟨b, off, none⟩)) (cs : Array Value) (d : TypeDesc) (hb : b < w.heap.size) (hc : ∀ j, j < cs.size → w.cell? ⟨b, off + j, none⟩ = cs[j]?)
    (hu : P.underlying ty = some d) (hd : (match d with | .struct _ | .array _ _ => true | _ => false) = true) (hi : (P.info? ty).map (·.size) = some cs.size)
    (h : wpB P ops w Q rest (a.put o.dst (.agg cs))) : wpB P ops w Q (o :: rest) a :=
  qb_pure hw _ (fun w' hB => exec_load_at (w := w') ty x ho b off hx cs d (fun j hj => (hB.cell (by exact hb)).trans (hc j hj)) hu hd hi) h

theorem qb_nil {a : Act} (h : Q a) : wpB P ops w Q [] a := h
end

end Go.Proofs.YtofjifhnkcghpaaDoor
