/- A script of calls as an argument. -/
import Derived.Test.YtalcmaphndfcfaaN
import Derived.Test.YtalcmaphndfcfaaBase7
namespace Go.Proofs.Ytalcmaphndfcfaa
open Go.RowKit Go.WideShapes Go.ChangeShapes
set_option linter.unusedVariables false
set_option linter.unusedSimpArgs false

/-- its numbers are int64s, its text is no longer than may be -/
def okOp (o : Op5) : Prop := (Lit.int .i64 o.kind).wf = true ∧ (Lit.int .i64 o.conn).wf = true ∧ (Lit.int .i64 o.side).wf = true ∧ (Lit.int .i64 o.many).wf = true ∧ o.data.size ≤ maxLen

set_option maxRecDepth 100000 in
theorem el_op {H : Type} {enc : TypeId × Value → H} {w : World} {base : Nat} {sp : Nat → Bool} {held : Bool} :
    ∀ n cs x, DataW.trod enc Try.prog w base sp held n 32 cs = some x → ∃ o : Op5, cs = opC o ∧ okOp o := by
  intro n cs x h
  obtain ⟨xs, m, _, -, hl, hxl, hh⟩ := DataW.trod_struct Try.underlying32 h
  rw [show Try.prog.cellsOf 32 = 5 from by kernel_rfl] at hl
  match cs, hl with
  | [x0, x1, x2, x3, x4], _ =>
    have g0 := hh 0 _ rfl
    have g1 := hh 1 _ rfl
    have g2 := hh 2 _ rfl
    have g3 := hh 3 _ rfl
    have g4 := hh 4 _ rfl
    have hxl4 : xs.length = 5 := hxl
    rw [List.getElem?_eq_getElem (by omega)] at g0 g1 g2 g3 g4
    have g0' : DataW.trod enc Try.prog w base sp held m 3 [x0] = some xs[0] := g0
    have g1' : DataW.trod enc Try.prog w base sp held m 3 [x1] = some xs[1] := g1
    have g2' : DataW.trod enc Try.prog w base sp held m 3 [x2] = some xs[2] := g2
    have g3' : DataW.trod enc Try.prog w base sp held m 3 [x3] = some xs[3] := g3
    have g4' : DataW.trod enc Try.prog w base sp held m 9 [x4] = some xs[4] := g4
    obtain ⟨a, ha, -, wa⟩ := DataW.trod_int Try.underlying3 g0'
    obtain ⟨b, hb, -, wb⟩ := DataW.trod_int Try.underlying3 g1'
    obtain ⟨c, hc, -, wc⟩ := DataW.trod_int Try.underlying3 g2'
    obtain ⟨d, hd, -, wd⟩ := DataW.trod_int Try.underlying3 g3'
    obtain ⟨s, hs, -, ws⟩ := DataW.trod_string Try.underlying9 g4'
    injection ha with ha
    injection hb with hb
    injection hc with hc
    injection hd with hd
    injection hs with hs
    subst ha hb hc hd hs
    exact ⟨⟨a, b, c, d, s⟩, rfl, wa, wb, wc, wd, ws⟩

theorem rows_ops (n : Nat) (xs : List Value) (hl : xs.length = n * 5) (hok : ∀ i, i < n → ∃ p : Op5, (xs.drop (i * 5)).take 5 = opC p ∧ okOp p) : ∃ ps : List Op5, ps.length = n ∧ xs = opsC ps ∧ ∀ o ∈ ps, okOp o := by
  induction n generalizing xs with
  | zero => exact ⟨[], rfl, List.eq_nil_of_length_eq_zero (by omega), by simp⟩
  | succ n ih =>
    obtain ⟨p, hp, ho⟩ := hok 0 (by omega)
    rw [Nat.zero_mul, List.drop_zero] at hp
    obtain ⟨ps, h1, h2, h3⟩ := ih (xs.drop 5) (by simp; omega) (fun i hi => by
      obtain ⟨q, hq⟩ := hok (i + 1) (by omega)
      refine ⟨q, ?_⟩
      rw [List.drop_drop, show 5 + i * 5 = (i + 1) * 5 by omega]
      exact hq)
    refine ⟨p :: ps, by simp [h1], ?_, by intro o ho'; rcases List.mem_cons.1 ho' with rfl | h; exact ho; exact h3 o h⟩
    have e : opsC (p :: ps) = opC p ++ opsC ps := by simp [opsC]
    rw [e, ← hp, ← h2, List.take_append_drop]

theorem open_ops {H : Type} {enc : TypeId × Value → H} {w : World} {base : Nat} {sp : Nat → Bool} {held : Bool} {v : Value} {d : DataW H} {ps : List MemPlace}
    (hv : ∃ a len cap, v = .slice a len cap) (hd : DataW.Trod enc Try.prog w base sp held 22 v d ps) :
    ∃ l : List Op5, Row w.heap.size w v l.length 5 (opsC l) ∧ (∀ o ∈ l, okOp o) ∧ (l.length = 0 ∨ ∃ el s, d = .slice el s ∧ el.length = l.length) := by
  obtain ⟨n, zs, hr, hok, hs⟩ := open_rows (okc := fun cs => ∃ p : Op5, cs = opC p ∧ okOp p) Try.underlying22 (c := 5) (by kernel_rfl) (by omega) el_op hv hd
  obtain ⟨l, h1, h2, h3⟩ := rows_ops n zs hr.len hok
  subst h1 h2
  exact ⟨l, hr, h3, hs⟩
end Go.Proofs.Ytalcmaphndfcfaa
