/- More words that proofs of this seat use: rows out of blocks; a whole array loaded under a guard. -/
import Derived.Test.YtofjifhnkcghpaaDoorBase
namespace Go.Proofs.YtofjifhnkcghpaaDoor
open Go.RowKit
set_option linter.unusedVariables false
set_option linter.unusedSimpArgs false

theorem Row.of_blk {w : World} {b : Nat} {T : TypeId} {cs : Array Value} {n size : Nat} (h : Blk w b T cs) (hs : cs.size = n * size) (hm : n ≤ maxLen) :
    Row w.heap.size w (.slice (some ⟨b, 0, none⟩) n n) n size cs.toList := by
  refine ⟨by simpa using hs, some ⟨b, 0, none⟩, n, rfl, Nat.le_refl _, hm, fun _ => ⟨b, 0, rfl, h.lt, fun j hj => ?_⟩⟩
  rw [Nat.zero_add, h.cell]
  simp [List.getD_eq_getElem?_getD, show j < cs.size by omega]

theorem RowI.of_blk {w : World} {b : Nat} {T : TypeId} {l : List Int} {n : Nat} (h : Arr w b T l) (hn : n = l.length) (hm : n ≤ maxLen) : RowI w.heap.size w (.slice (some ⟨b, 0, none⟩) n n) l := by
  subst hn
  have := Row.of_blk (n := l.length) (size := 1) h (by simp [size_ints]) hm
  simpa [RowI, ints] using this

theorem wpList_load_at_g {P : Program} {ops : Array Oper} {rest : List Oper} {o : Oper} {a : Act} {w : World} {Q : Exit → Act → World → Prop} (hgd : Region.wanted o (yielded ops a.tmps) = true) (ty : TypeId) (x : Operand) (ho : o.op = .load ty x)
    (b off : Nat) (hx : a.eval x = .pointer (some ⟨b, off, none⟩)) (cs : Array Value) (d : TypeDesc) (hc : ∀ j, j < cs.size → w.cell? ⟨b, off + j, none⟩ = cs[j]?)
    (hu : P.underlying ty = some d) (hd : (match d with | .struct _ | .array _ _ => true | _ => false) = true) (hi : (P.info? ty).map (·.size) = some cs.size)
    (h : wpList P ops Q rest (a.put o.dst (.agg cs)) w) : wpList P ops Q (o :: rest) a w :=
  wpList_step fun K hK => by
    simp only [hgd, if_true]
    unfold Oper.wp
    rw [exec_load_at ty x ho b off hx cs d hc hu hd hi]
    exact hK _ _ h

end Go.Proofs.YtofjifhnkcghpaaDoor
