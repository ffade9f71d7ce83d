/- AccumAsked: as the row asks it; opening an accumulator. -/
import Derived.Test.YtlhncphnhgbclaaU
import Derived.Test.YtlhncphnhgbclaaBase7
namespace Go.Proofs.Ytlhncphnhgbclaa
open Go.RowKit Go.WideShapes Go.ChangeShapes
set_option linter.unusedVariables false
set_option linter.unusedSimpArgs false

theorem el_part {H : Type} {enc : TypeId × Value → H} {w : World} {base : Nat} {sp : Nat → Bool} {held : Bool} :
    ∀ n cs x, DataW.trod enc Try.prog w base sp held n 46 cs = some x → ∃ p : Prt, cs = partC p := by
  intro n cs x h
  obtain ⟨xs, m, _, -, hl, hxl, hh⟩ := DataW.trod_struct Try.underlying46 h
  rw [show Try.prog.cellsOf 46 = 5 from by kernel_rfl] at hl
  match cs, hl with
  | [x0, x1, x2, x3, x4], _ =>
    have g0 := hh 0 _ rfl
    have g1 := hh 1 _ rfl
    have g2 := hh 2 _ rfl
    have g3 := hh 3 _ rfl
    have hxl4 : xs.length = 4 := hxl
    rw [List.getElem?_eq_getElem (by omega)] at g0 g1 g2 g3
    have g0' : DataW.trod enc Try.prog w base sp held m 4 [x0] = some xs[0] := g0
    have g1' : DataW.trod enc Try.prog w base sp held m 24 [x1, x2] = some xs[1] := g1
    have g2' : DataW.trod enc Try.prog w base sp held m 2 [x3] = some xs[2] := g2
    have g3' : DataW.trod enc Try.prog w base sp held m 2 [x4] = some xs[3] := g3
    obtain ⟨b, hb, -⟩ := DataW.trod_bool Try.underlying4 g0'
    obtain ⟨mn, hmn, -, -⟩ := DataW.trod_int Try.underlying2 g2'
    obtain ⟨mx, hmx, -, -⟩ := DataW.trod_int Try.underlying2 g3'
    obtain ⟨ys, m2, _, -, _, hyl, hh2⟩ := DataW.trod_struct Try.underlying24 g1'
    have e0 := hh2 0 _ rfl
    have e1 := hh2 1 _ rfl
    have hyl2 : ys.length = 2 := hyl
    rw [List.getElem?_eq_getElem (by omega)] at e0 e1
    have e0' : DataW.trod enc Try.prog w base sp held m2 2 [x1] = some ys[0] := e0
    have e1' : DataW.trod enc Try.prog w base sp held m2 22 [x2] = some ys[1] := e1
    obtain ⟨hi, hhi, -, -⟩ := DataW.trod_int Try.underlying2 e0'
    obtain ⟨lo, hlo, -, hw⟩ := DataW.trod_int Try.underlying22 e1'
    injection hb with hb
    injection hmn with hmn
    injection hmx with hmx
    injection hhi with hhi
    injection hlo with hlo
    subst hb hmn hmx hhi hlo
    have h2' : 0 ≤ lo ∧ lo ≤ 18446744073709551615 := by
      have hmin : IntKind.u64.min = 0 := rfl
      have hmax : IntKind.u64.max = 18446744073709551615 := rfl
      simp only [Lit.wf, Bool.and_eq_true, decide_eq_true_eq] at hw
      omega
    refine ⟨⟨b, hi * 18446744073709551616 + lo, mn, mx⟩, ?_⟩
    have q1 : hiW (hi * 18446744073709551616 + lo) = hi := by unfold hiW; omega
    have q2 : loW (hi * 18446744073709551616 + lo) = lo := by unfold loW; omega
    simp only [partC, q1, q2]

theorem rows_parts (n : Nat) (xs : List Value) (hl : xs.length = n * 5) (hok : ∀ i, i < n → ∃ p : Prt, (xs.drop (i * 5)).take 5 = partC p) : ∃ ps : List Prt, ps.length = n ∧ xs = partsC ps := by
  induction n generalizing xs with
  | zero => exact ⟨[], rfl, List.eq_nil_of_length_eq_zero (by omega)⟩
  | succ n ih =>
    obtain ⟨p, hp⟩ := hok 0 (by omega)
    rw [Nat.zero_mul, List.drop_zero] at hp
    obtain ⟨ps, h1, h2⟩ := ih (xs.drop 5) (by simp; omega) (fun i hi => by
      obtain ⟨q, hq⟩ := hok (i + 1) (by omega)
      refine ⟨q, ?_⟩
      rw [List.drop_drop, show 5 + i * 5 = (i + 1) * 5 by omega]
      exact hq)
    refine ⟨p :: ps, by simp [h1], ?_⟩
    have e : partsC (p :: ps) = partC p ++ partsC ps := by simp [partsC]
    rw [e, ← hp, ← h2, List.take_append_drop]

theorem open_acc {H : Type} {enc : TypeId × Value → H} {w : World} {r : Reach} {base b : Nat} {sp : Nat → Bool} {held : Bool} {v : Value} {d : DataW H} {ps0 : List MemPlace}
    (h : Value.okWide Try.prog w r base 39 v) (hd : DataW.Trod enc Try.prog w b sp held 39 v d ps0) : ∃ (c : Int) (vs : Value) (ps : List Prt), v = .agg #[.int .i64 c, vs] ∧ RowP w.heap.size w vs ps := by
  have h' : ∃ cs, v = .agg cs ∧ cs.size = Try.prog.cellsOf 39 ∧ Row.okWide Try.prog w r base 39 cs := by
    unfold Value.okWide at h
    rw [Try.underlying39] at h
    exact h
  obtain ⟨cs, rfl, hz, -⟩ := h'
  rw [show Try.prog.cellsOf 39 = 2 from by kernel_rfl] at hz
  obtain ⟨fuel, hf⟩ := hd
  obtain ⟨l, rfl⟩ : ∃ l : List Value, cs = l.toArray := ⟨cs.toList, by simp⟩
  match l, hz with
  | [x, y], _ =>
    have hf2 : DataW.trod enc Try.prog w b sp held fuel 39 [x, y] = some (d, ps0) := by simpa [Value.cells] using hf
    obtain ⟨xs, m, _, -, _, hxl, hh⟩ := DataW.trod_struct Try.underlying39 hf2
    have g0 := hh 0 _ rfl
    have g1 := hh 1 _ rfl
    have hxl2 : xs.length = 2 := hxl
    rw [List.getElem?_eq_getElem (by omega)] at g0 g1
    have g0' : DataW.trod enc Try.prog w b sp held m 3 [x] = some xs[0] := g0
    have g1' : DataW.trod enc Try.prog w b sp held m 37 [y] = some xs[1] := g1
    obtain ⟨c, hc, -, -⟩ := DataW.trod_int Try.underlying3 g0'
    injection hc with hc
    subst hc
    have hy : ∃ a len cap, y = .slice a len cap := by
      rcases DataW.trod_slice Try.underlying37 g1' with ⟨h0, -⟩ | ⟨a, len, cap, _, _, _, _, h1, _⟩
      · injection h0 with h0; exact ⟨_, _, _, h0⟩
      · injection h1 with h1; exact ⟨_, _, _, h1⟩
    obtain ⟨a, len, cap, rfl⟩ := hy
    obtain ⟨n, zs, hr, hok, -⟩ := open_rows (okc := fun cs => ∃ p : Prt, cs = partC p) (d := xs[1].1) (ps := xs[1].2) Try.underlying37 (c := 5) (by kernel_rfl) (by omega) el_part ⟨a, len, cap, rfl⟩ ⟨m, g1'⟩
    obtain ⟨ps, h1, h2⟩ := rows_parts n zs hr.len hok
    subst h1 h2
    exact ⟨c, _, ps, rfl, hr⟩

theorem askedLaw (c1 : Int) (va : Value) (c2 : Int) (vb : Value) (meas : Int) (w : World) (ps : List Prt) (h1 : RowP w.heap.size w va ps) (qs : List Prt) (h2 : RowP w.heap.size w vb qs) (_hm : (Lit.int .i64 meas).wf = true) :
    Calls Try.prog 6 #[.agg #[.int .i64 c1, va], .agg #[.int .i64 c2, vb], .int .i64 meas] w fun e w' => e = .returned (.bool true) ∧ Below w.heap.size w w' := asked6 c1 c2 meas va vb ps qs w h1 h2
end Go.Proofs.Ytlhncphnhgbclaa
