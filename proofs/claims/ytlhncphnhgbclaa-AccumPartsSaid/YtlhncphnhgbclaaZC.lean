/- AccumParts: as the row asks it; facts of two measures as an argument. -/
import Derived.Test.YtlhncphnhgbclaaZB
import Derived.Test.YtlhncphnhgbclaaBase10
namespace Go.Proofs.Ytlhncphnhgbclaa
open Go.RowKit Go.WideShapes Go.ChangeShapes
set_option linter.unusedVariables false
set_option linter.unusedSimpArgs false

def okF (f : Int × Int) : Prop := (Lit.int .i64 f.1).wf = true ∧ (Lit.int .i64 f.2).wf = true
theorem el_fact {H : Type} {enc : TypeId × Value → H} {w : World} {base : Nat} {sp : Nat → Bool} {held : Bool} :
    ∀ n cs x, DataW.trod enc Try.prog w base sp held n 55 cs = some x → ∃ f : Int × Int, cs = [.int .i64 f.1, .int .i64 f.2] ∧ okF f := by
  intro n cs x h
  obtain ⟨xs, m, _, -, hl, hxl, hh⟩ := DataW.trod_array Try.underlying55 h
  rw [show Try.prog.cellsOf 55 = 2 from by kernel_rfl] at hl
  match cs, hl with
  | [x0, x1], _ =>
    have g0 := hh 0 (by omega)
    have g1 := hh 1 (by omega)
    rw [List.getElem?_eq_getElem (by omega)] at g0 g1
    have g0' : DataW.trod enc Try.prog w base sp held m 2 [x0] = some xs[0] := g0
    have g1' : DataW.trod enc Try.prog w base sp held m 2 [x1] = some xs[1] := g1
    obtain ⟨a, ha, -, wa⟩ := DataW.trod_int Try.underlying2 g0'
    obtain ⟨b, hb, -, wb⟩ := DataW.trod_int Try.underlying2 g1'
    injection ha with ha
    injection hb with hb
    subst ha hb
    exact ⟨(a, b), rfl, wa, wb⟩
theorem rows_facts (n : Nat) (xs : List Value) (hl : xs.length = n * 2) (hok : ∀ i, i < n → ∃ p : Int × Int, (xs.drop (i * 2)).take 2 = [.int .i64 p.1, .int .i64 p.2] ∧ okF p) : ∃ F : List (Int × Int), F.length = n ∧ xs = (F.flatMap fun f => [.int .i64 f.1, .int .i64 f.2]) ∧ ∀ f ∈ F, okF f := by
  induction n generalizing xs with
  | zero => exact ⟨[], rfl, List.eq_nil_of_length_eq_zero (by omega), by simp⟩
  | succ n ih =>
    obtain ⟨p, hp, ho⟩ := hok 0 (by omega)
    rw [Nat.zero_mul, List.drop_zero] at hp
    obtain ⟨ps, h1, h2, h3⟩ := ih (xs.drop 2) (by simp; omega) (fun i hi => by
      obtain ⟨q, hq⟩ := hok (i + 1) (by omega)
      refine ⟨q, ?_⟩
      rw [List.drop_drop, show 2 + i * 2 = (i + 1) * 2 by omega]
      exact hq)
    refine ⟨p :: ps, by simp [h1], ?_, by intro o ho'; rcases List.mem_cons.1 ho' with rfl | h; exact ho; exact h3 o h⟩
    rw [List.flatMap_cons, ← hp, ← h2, List.take_append_drop]

theorem open_facts {H : Type} {enc : TypeId × Value → H} {w : World} {base : Nat} {sp : Nat → Bool} {held : Bool} {v : Value} {d : DataW H} {ps : List MemPlace}
    (hv : ∃ a len cap, v = .slice a len cap) (hd : DataW.Trod enc Try.prog w base sp held 52 v d ps) :
    ∃ F : List (Int × Int), Row w.heap.size w v F.length 2 (F.flatMap fun f => [.int .i64 f.1, .int .i64 f.2]) ∧ (∀ f ∈ F, okF f) := by
  obtain ⟨n, zs, hr, hok, hs⟩ := open_rows (okc := fun cs => ∃ p : Int × Int, cs = [.int .i64 p.1, .int .i64 p.2] ∧ okF p) Try.underlying52 (c := 2) (by kernel_rfl) (by omega) el_fact hv hd
  obtain ⟨l, h1, h2, h3⟩ := rows_facts n zs hr.len hok
  subst h1 h2
  exact ⟨l, hr, h3⟩

theorem partsLaw (vf vp : Value) (w : World) (F : List (Int × Int)) (hr : Row w.heap.size w vf F.length 2 (F.flatMap fun f => [.int .i64 f.1, .int .i64 f.2])) (hF : ∀ f ∈ F, okF f)
    (n : Nat) (ps : List Int) (h2 : Row w.heap.size w vp n 1 (ps.map (Value.int .i64))) (_hb : n * 8 ≤ 140737488351232) :
    Calls Try.prog 9 #[vf, vp] w fun e w' => e = .returned (.bool true) ∧ Below w.heap.size w w' := by
  have hn : n = ps.length := by have := h2.len; simpa using this.symm
  subst hn
  exact parts9 vf vp F ps w hr h2 (fun f hf => ⟨wf_bd (hF f hf).1, wf_bd (hF f hf).2⟩)
end Go.Proofs.Ytlhncphnhgbclaa
