/- A script of operations as an argument; DictPlays' law. -/
import Derived.Test.YtiihnepfcgmghaaZF
namespace Go.Proofs.Ytiihnepfcgmghaa
open Go.RowKit Go.WideShapes Go.ChangeShapes
set_option linter.unusedVariables false
set_option linter.unusedSimpArgs false
theorem wf_in {n : Int} (h : (Lit.int .i64 n).wf = true) : -9223372036854775808 ≤ n ∧ n ≤ 9223372036854775807 := by
  have hmin : IntKind.i64.min = -9223372036854775808 := rfl
  have hmax : IntKind.i64.max = 9223372036854775807 := rfl
  simp only [Lit.wf, Bool.and_eq_true, decide_eq_true_eq] at h
  omega
section
variable {H : Type} {enc : TypeId × Value → H} {w : World} {base : Nat} {sp : Nat → Bool} {held : Bool}
theorem el_strT : ∀ n cs x, DataW.trod enc Try.prog w base sp held n 9 cs = some x → Fit Try.prog 9 x.1 → ∃ s : ByteArray, cs = [.string s] ∧ s.size ≤ 140737488351232 := by
  intro n cs x h hm
  obtain ⟨s, h1, h2, h3⟩ := DataW.trod_string Try.underlying9 h
  rw [h2] at hm
  exact ⟨s, h1, by have := Fit.str hm; rwa [Array.length_toList] at this⟩
set_option maxRecDepth 100000 in
theorem el_opT : ∀ n cs x, DataW.trod enc Try.prog w base sp held n 52 cs = some x → Fit Try.prog 52 x.1 → ∃ o : OpT, cs = opL o ∧ okO o := by
  intro n cs x h hm
  obtain ⟨xs, k, _, hx, hl, hxl, hh⟩ := DataW.trod_struct Try.underlying52 h
  rw [show Try.prog.cellsOf 52 = 4 from by kernel_rfl] at hl
  have hfit : Fit Try.prog 52 (.agg (xs.map (·.1))) := by rw [hx] at hm; exact hm
  have hp := fun (i : Nat) (hi : i < xs.length) => (show (xs.map (·.1))[i]? = some xs[i].1 by rw [List.getElem?_map, List.getElem?_eq_getElem hi]; rfl)
  match cs, hl with
  | [x0, x1, x2, x3], _ =>
    have g0 := hh 0 _ rfl
    have g1 := hh 1 _ rfl
    have g2 := hh 2 _ rfl
    have g3 := hh 3 _ rfl
    have hxl3 : xs.length = 4 := hxl
    rw [List.getElem?_eq_getElem (by omega)] at g0 g1 g2 g3
    have g0' : DataW.trod enc Try.prog w base sp held k 3 [x0] = some xs[0] := g0
    have g1' : DataW.trod enc Try.prog w base sp held k 3 [x1] = some xs[1] := g1
    have g2' : DataW.trod enc Try.prog w base sp held k 9 [x2] = some xs[2] := g2
    have g3' : DataW.trod enc Try.prog w base sp held k 9 [x3] = some xs[3] := g3
    obtain ⟨a, ha, -, wa⟩ := DataW.trod_int Try.underlying3 g0'
    obtain ⟨b, hb, -, wb⟩ := DataW.trod_int Try.underlying3 g1'
    obtain ⟨s, hs, hz⟩ := el_strT _ _ _ g2' (Fit.part Try.underlying52 hfit (i := 2) rfl (hp 2 (by omega)))
    obtain ⟨s2, hs2, hz2⟩ := el_strT _ _ _ g3' (Fit.part Try.underlying52 hfit (i := 3) rfl (hp 3 (by omega)))
    injection ha with ha _
    injection hb with hb _
    injection hs with hs _
    injection hs2 with hs2 _
    subst ha hb hs hs2
    exact ⟨⟨a, b, s, s2⟩, rfl, wf_in wa, wf_in wb, hz, hz2⟩
theorem rows_ops (n : Nat) (xs : List Value) (hl : xs.length = n * 4) (hok : ∀ i, i < n → ∃ p : OpT, (xs.drop (i * 4)).take 4 = opL p ∧ okO p) : ∃ ps : List OpT, ps.length = n ∧ xs = opsL ps ∧ ∀ o ∈ ps, okO o := by
  induction n generalizing xs with
  | zero => exact ⟨[], rfl, List.eq_nil_of_length_eq_zero (by omega), by simp⟩
  | succ n ih =>
    obtain ⟨p, hp, ho⟩ := hok 0 (by omega)
    rw [Nat.zero_mul, List.drop_zero] at hp
    obtain ⟨ps, h1, h2, h3⟩ := ih (xs.drop 4) (by simp; omega) (fun i hi => by
      obtain ⟨q, hq⟩ := hok (i + 1) (by omega)
      refine ⟨q, ?_⟩
      rw [List.drop_drop, show 4 + i * 4 = (i + 1) * 4 by omega]
      exact hq)
    refine ⟨p :: ps, by simp [h1], ?_, by intro o ho'; rcases List.mem_cons.1 ho' with rfl | h; exact ho; exact h3 o h⟩
    have e : opsL (p :: ps) = opL p ++ opsL ps := by simp [opsL]
    rw [e, ← hp, ← h2, List.take_append_drop]
theorem open_opsT {v : Value} {d : DataW H} {ps : List MemPlace} (hv : ∃ a len cap, v = .slice a len cap) (hd : DataW.Trod enc Try.prog w base sp held 46 v d ps) (hf : Fit Try.prog 46 d) :
    ∃ l : List OpT, Row w.heap.size w v l.length 4 (opsL l) ∧ (∀ o ∈ l, okO o) := by
  obtain ⟨a, len, cap, rfl⟩ := hv
  obtain ⟨n, hn⟩ := hd
  obtain ⟨v, k, xs, e, hr, hok, hk⟩ := open_rowsT (okc := fun cs => ∃ o : OpT, cs = opL o ∧ okO o) Try.underlying46 (by kernel_rfl : Try.prog.cellsOf 52 = 4) (by omega) el_opT n _ _ hn hf
  have e2 : Value.slice a len cap = v := by
    have : (Value.slice a len cap).cells.toList = [Value.slice a len cap] := rfl
    rw [this] at e
    injection e with e
  subst e2
  obtain ⟨l, h1, h2, h3⟩ := rows_ops k xs hr.len hok
  subst h1 h2
  exact ⟨l, hr, h3⟩
end
theorem playsLaw (v : Value) (w : World) (T : List OpT) (hr : Row w.heap.size w v T.length 4 (opsL T)) (hT : ∀ o ∈ T, okO o) :
    Calls Try.prog 6 #[v] w fun e w' => e = .returned (.bool true) ∧ Below w.heap.size w w' := plays6 v w T hr hT
end Go.Proofs.Ytiihnepfcgmghaa
