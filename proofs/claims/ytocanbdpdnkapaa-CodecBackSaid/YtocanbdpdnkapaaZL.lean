/- Opening slices of things: texts that fit into a machine, numbers that are int64s. -/
import Derived.Test.YtocanbdpdnkapaaZK
import Derived.Test.YtocanbdpdnkapaaBase19
namespace Go.Proofs.Ytocanbdpdnkapaa
open Go.RowKit Go.WideShapes Go.ChangeShapes
set_option linter.unusedVariables false
set_option linter.unusedSimpArgs false

theorem wf_in64 {n : Int} (h : (Lit.int .i64 n).wf = true) : in64 n := by
  have hmin : IntKind.i64.min = -9223372036854775808 := rfl
  have hmax : IntKind.i64.max = 9223372036854775807 := rfl
  simp only [Lit.wf, Bool.and_eq_true, decide_eq_true_eq] at h
  unfold in64; omega
section
variable {H : Type} {enc : TypeId × Value → H} {w : World} {base : Nat} {sp : Nat → Bool} {held : Bool}
theorem el_strT : ∀ n cs x, DataW.trod enc Try.prog w base sp held n 9 cs = some x → Fit Try.prog 9 x.1 → ∃ s : ByteArray, cs = [.string s] ∧ s.size ≤ 140737488351232 := by
  intro n cs x h hm
  obtain ⟨s, h1, h2, h3⟩ := DataW.trod_string Try.underlying9 h
  rw [h2] at hm
  exact ⟨s, h1, by have := Fit.str hm; rwa [Array.length_toList] at this⟩
theorem el_textsT : ∀ n cs x, DataW.trod enc Try.prog w base sp held n 53 cs = some x → Fit Try.prog 53 x.1 → ∃ v l, cs = [v] ∧ RowS w.heap.size w v l ∧ (∀ s ∈ l, s.size ≤ 140737488351232) := by
  intro n cs x h hm
  obtain ⟨v, k, xs, rfl, hr, hok, hk⟩ := open_rowsT (okc := fun cs => ∃ s : ByteArray, cs = [.string s] ∧ s.size ≤ 140737488351232) Try.underlying53 (by kernel_rfl : Try.prog.cellsOf 9 = 1) (by omega) el_strT n cs x h hm
  obtain ⟨l, rfl, h1, h2⟩ := rows_choose (c := 1) (by omega) (fun s => [Value.string s]) (fun _ => rfl) hr hok
  exact ⟨v, l, rfl, row_one h1, h2⟩
theorem el_intsT : ∀ n cs x, DataW.trod enc Try.prog w base sp held n 96 cs = some x → Fit Try.prog 96 x.1 → ∃ v l, cs = [v] ∧ RowI w.heap.size w v l ∧ (∀ n ∈ l, in64 n) := by
  intro n cs x h hm
  obtain ⟨v, k, xs, rfl, hr, hok, hk⟩ := open_rowsT (okc := fun cs => ∃ s : Int, cs = [.int .i64 s] ∧ in64 s) Try.underlying96 (by kernel_rfl : Try.prog.cellsOf 2 = 1) (by omega) (fun n cs x h _ => by
    obtain ⟨s, h1, -, hw⟩ := DataW.trod_int Try.underlying2 h
    exact ⟨s, h1, wf_in64 hw⟩) n cs x h hm
  obtain ⟨l, rfl, h1, h2⟩ := rows_choose (c := 1) (by omega) (fun s => [Value.int .i64 s]) (fun _ => rfl) hr hok
  exact ⟨v, l, rfl, row_one h1, h2⟩
set_option maxRecDepth 100000 in
theorem el_cellT : ∀ n cs x, DataW.trod enc Try.prog w base sp held n 92 cs = some x → Fit Try.prog 92 x.1 → ∃ c : CellT, cs = cellC c ∧ (c.t.size ≤ 140737488351232 ∧ in64 c.n) := by
  intro n cs x h hm
  obtain ⟨xs, k, _, hx, hl, hxl, hh⟩ := DataW.trod_struct Try.underlying92 h
  rw [show Try.prog.cellsOf 92 = 3 from by kernel_rfl] at hl
  have hfit : Fit Try.prog 92 (.agg (xs.map (·.1))) := by rw [hx] at hm; exact hm
  have hp := fun (i : Nat) (hi : i < xs.length) => (show (xs.map (·.1))[i]? = some xs[i].1 by rw [List.getElem?_map, List.getElem?_eq_getElem hi]; rfl)
  match cs, hl with
  | [x0, x1, x2], _ =>
    have g0 := hh 0 _ rfl
    have g1 := hh 1 _ rfl
    have g2 := hh 2 _ rfl
    have hxl3 : xs.length = 3 := hxl
    rw [List.getElem?_eq_getElem (by omega)] at g0 g1 g2
    have g0' : DataW.trod enc Try.prog w base sp held k 3 [x0] = some xs[0] := g0
    have g1' : DataW.trod enc Try.prog w base sp held k 2 [x1] = some xs[1] := g1
    have g2' : DataW.trod enc Try.prog w base sp held k 9 [x2] = some xs[2] := g2
    obtain ⟨a, ha, -, -⟩ := DataW.trod_int Try.underlying3 g0'
    obtain ⟨b, hb, -, hw⟩ := DataW.trod_int Try.underlying2 g1'
    obtain ⟨s, hs, hz⟩ := el_strT _ _ _ g2' (Fit.part Try.underlying92 hfit (i := 2) rfl (hp 2 (by omega)))
    injection ha with ha _
    injection hb with hb _
    injection hs with hs _
    subst ha hb hs
    exact ⟨⟨a, b, s⟩, rfl, hz, wf_in64 hw⟩
theorem el_cellsT : ∀ n cs x, DataW.trod enc Try.prog w base sp held n 54 cs = some x → Fit Try.prog 54 x.1 → ∃ v l, cs = [v] ∧ RowC w.heap.size w v l ∧ (∀ c ∈ l, (c.t.size ≤ 140737488351232 ∧ in64 c.n)) := by
  intro n cs x h hm
  obtain ⟨v, k, xs, rfl, hr, hok, hk⟩ := open_rowsT (okc := fun cs => ∃ c : CellT, cs = cellC c ∧ (c.t.size ≤ 140737488351232 ∧ in64 c.n)) Try.underlying54 (by kernel_rfl : Try.prog.cellsOf 92 = 3) (by omega) el_cellT n cs x h hm
  obtain ⟨l, rfl, h1, h2⟩ := rows_choose (c := 3) (by omega) cellC (fun _ => rfl) hr hok
  exact ⟨v, l, rfl, h1, h2⟩
set_option maxRecDepth 100000 in
theorem el_factT : ∀ n cs x, DataW.trod enc Try.prog w base sp held n 98 cs = some x → Fit Try.prog 98 x.1 →
    ∃ q : FactT × Value × Value, cs = [q.2.1, q.2.2] ∧ (RowS w.heap.size w q.2.1 q.1.dims ∧ RowI w.heap.size w q.2.2 q.1.meas ∧ (∀ s ∈ q.1.dims, s.size ≤ 140737488351232) ∧ inF q.1) := by
  intro n cs x h hm
  obtain ⟨xs, k, _, hx, hl, hxl, hh⟩ := DataW.trod_struct Try.underlying98 h
  rw [show Try.prog.cellsOf 98 = 2 from by kernel_rfl] at hl
  have hfit : Fit Try.prog 98 (.agg (xs.map (·.1))) := by rw [hx] at hm; exact hm
  have hp := fun (i : Nat) (hi : i < xs.length) => (show (xs.map (·.1))[i]? = some xs[i].1 by rw [List.getElem?_map, List.getElem?_eq_getElem hi]; rfl)
  match cs, hl with
  | [x0, x1], _ =>
    have g0 := hh 0 _ rfl
    have g1 := hh 1 _ rfl
    have hxl2 : xs.length = 2 := hxl
    rw [List.getElem?_eq_getElem (by omega)] at g0 g1
    have g0' : DataW.trod enc Try.prog w base sp held k 53 [x0] = some xs[0] := g0
    have g1' : DataW.trod enc Try.prog w base sp held k 96 [x1] = some xs[1] := g1
    obtain ⟨vd, ld, hd, r1, r2⟩ := el_textsT _ _ _ g0' (Fit.part Try.underlying98 hfit (i := 0) rfl (hp 0 (by omega)))
    obtain ⟨vm, lm, hm, r4, r5⟩ := el_intsT _ _ _ g1' (Fit.part Try.underlying98 hfit (i := 1) rfl (hp 1 (by omega)))
    injection hd with hd _
    injection hm with hm _
    subst hd hm
    exact ⟨⟨⟨ld, lm⟩, _, _⟩, rfl, r1, r4, r2, r5⟩
theorem el_factsT : ∀ n cs x, DataW.trod enc Try.prog w base sp held n 55 cs = some x → Fit Try.prog 55 x.1 → ∃ v l, cs = [v] ∧ RowF w.heap.size w v l ∧ (∀ f ∈ l, (∀ s ∈ f.dims, s.size ≤ 140737488351232) ∧ inF f) := by
  intro n cs x h hm
  obtain ⟨v, k, xs, rfl, hr, hok, hk⟩ := open_rowsT (okc := fun cs => ∃ q : FactT × Value × Value, cs = [q.2.1, q.2.2] ∧ (RowS w.heap.size w q.2.1 q.1.dims ∧ RowI w.heap.size w q.2.2 q.1.meas ∧ (∀ s ∈ q.1.dims, s.size ≤ 140737488351232) ∧ inF q.1)) Try.underlying55 (by kernel_rfl : Try.prog.cellsOf 98 = 2) (by omega) el_factT n cs x h hm
  obtain ⟨l, rfl, ⟨a, cap, hv, h1, h2, h3⟩, hel⟩ := rows_choose (c := 2) (by omega) (fun q : FactT × Value × Value => [q.2.1, q.2.2]) (fun _ => rfl) hr hok
  refine ⟨v, l.map (·.1), rfl, ⟨l.map (·.2), by simp, ⟨a, cap, by simpa using hv, by simpa using h1, h2, fun hn => ?_⟩, fun i f p hf hp => ?_⟩, fun f hf => ?_⟩
  · obtain ⟨b, off, ha, hb, hc⟩ := h3 (by simpa using hn)
    refine ⟨b, off, ha, hb, fun i x hx j hj => ?_⟩
    rw [List.getElem?_map, Option.map_eq_some_iff] at hx
    obtain ⟨q, hq, rfl⟩ := hx
    exact hc i q hq j hj
  · rw [List.getElem?_map, Option.map_eq_some_iff] at hf hp
    obtain ⟨q, hq, rfl⟩ := hf
    obtain ⟨q2, hq2, rfl⟩ := hp
    obtain rfl : q = q2 := Option.some.inj (hq.symm.trans hq2)
    have := hel q (List.mem_of_getElem? hq)
    exact ⟨this.1, this.2.1⟩
  · rw [List.mem_map] at hf
    obtain ⟨q, hq, rfl⟩ := hf
    exact (hel q hq).2.2
set_option maxRecDepth 100000 in
theorem el_thingT : ∀ n cs x, DataW.trod enc Try.prog w base sp held n 57 cs = some x → Fit Try.prog 57 x.1 → ∃ q : ThingT × ThV, cs = (thingC q.1 q.2).toList ∧ (RowsT w.heap.size w q.1 q.2 ∧ okY q.1) := by
  intro n cs x h hm
  obtain ⟨xs, k, _, hx, hl, hxl, hh⟩ := DataW.trod_struct Try.underlying57 h
  rw [show Try.prog.cellsOf 57 = 7 from by kernel_rfl] at hl
  have hfit : Fit Try.prog 57 (.agg (xs.map (·.1))) := by rw [hx] at hm; exact hm
  have hp := fun (i : Nat) (hi : i < xs.length) => (show (xs.map (·.1))[i]? = some xs[i].1 by rw [List.getElem?_map, List.getElem?_eq_getElem hi]; rfl)
  match cs, hl with
  | [x0, x1, x2, x3, x4, x5, x6], _ =>
    have g0 := hh 0 _ rfl
    have g1 := hh 1 _ rfl
    have g2 := hh 2 _ rfl
    have g3 := hh 3 _ rfl
    have g4 := hh 4 _ rfl
    have g5 := hh 5 _ rfl
    have g6 := hh 6 _ rfl
    have hxl7 : xs.length = 7 := hxl
    rw [List.getElem?_eq_getElem (by omega)] at g0 g1 g2 g3 g4 g5 g6
    have g0' : DataW.trod enc Try.prog w base sp held k 3 [x0] = some xs[0] := g0
    have g1' : DataW.trod enc Try.prog w base sp held k 2 [x1] = some xs[1] := g1
    have g2' : DataW.trod enc Try.prog w base sp held k 9 [x2] = some xs[2] := g2
    have g3' : DataW.trod enc Try.prog w base sp held k 53 [x3] = some xs[3] := g3
    have g4' : DataW.trod enc Try.prog w base sp held k 54 [x4] = some xs[4] := g4
    have g5' : DataW.trod enc Try.prog w base sp held k 55 [x5] = some xs[5] := g5
    have g6' : DataW.trod enc Try.prog w base sp held k 53 [x6] = some xs[6] := g6
    obtain ⟨a, ha, -, -⟩ := DataW.trod_int Try.underlying3 g0'
    obtain ⟨b, hb, -, hw⟩ := DataW.trod_int Try.underlying2 g1'
    obtain ⟨s, hs, hz⟩ := el_strT _ _ _ g2' (Fit.part Try.underlying57 hfit (i := 2) rfl (hp 2 (by omega)))
    obtain ⟨v3, l3, h3, r3⟩ := el_textsT _ _ _ g3' (Fit.part Try.underlying57 hfit (i := 3) rfl (hp 3 (by omega)))
    obtain ⟨v4, l4, h4, r4⟩ := el_cellsT _ _ _ g4' (Fit.part Try.underlying57 hfit (i := 4) rfl (hp 4 (by omega)))
    obtain ⟨v5, l5, h5, r5⟩ := el_factsT _ _ _ g5' (Fit.part Try.underlying57 hfit (i := 5) rfl (hp 5 (by omega)))
    obtain ⟨v6, l6, h6, r6⟩ := el_textsT _ _ _ g6' (Fit.part Try.underlying57 hfit (i := 6) rfl (hp 6 (by omega)))
    injection ha with ha _
    injection hb with hb _
    injection hs with hs _
    injection h3 with h3 _
    injection h4 with h4 _
    injection h5 with h5 _
    injection h6 with h6 _
    subst ha hb hs h3 h4 h5 h6
    exact ⟨⟨⟨a, b, s, l3, l4, l5, l6⟩, ⟨_, _, _, _⟩⟩, rfl, ⟨r3.1, r4.1, r5.1, r6.1⟩, ⟨hz, r3.2, fun c hc => (r4.2 c hc).1, fun f hf => (r5.2 f hf).1, r6.2, ⟨wf_in64 hw, fun c hc => (r4.2 c hc).2, fun f hf => (r5.2 f hf).2⟩⟩⟩
theorem open_thingsT {v : Value} {d : DataW H} {ps : List MemPlace} (hv : ∃ a len cap, v = .slice a len cap) (hd : DataW.Trod enc Try.prog w base sp held 47 v d ps) (hm : Fit Try.prog 47 d) :
    ∃ l : List (ThingT × ThV), RowTh w.heap.size w v l ∧ (∀ p ∈ l, okY p.1) := by
  obtain ⟨a, len, cap, rfl⟩ := hv
  obtain ⟨n, h⟩ := hd
  obtain ⟨v', k, xs, hvv, hr, hok, hk⟩ := open_rowsT (okc := fun cs => ∃ q : ThingT × ThV, cs = (thingC q.1 q.2).toList ∧ (RowsT w.heap.size w q.1 q.2 ∧ okY q.1)) Try.underlying47 (by kernel_rfl : Try.prog.cellsOf 57 = 7) (by omega) el_thingT n _ (d, ps) h hm
  have hvv : [Value.slice a len cap] = [v'] := hvv
  injection hvv with hvv _
  subst hvv
  obtain ⟨l, rfl, h1, h2⟩ := rows_choose (c := 7) (by omega) (fun q : ThingT × ThV => (thingC q.1 q.2).toList) (fun _ => rfl) hr hok
  exact ⟨l, ⟨h1, fun p hp => (h2 p hp).1⟩, fun p hp => (h2 p hp).2⟩
end
theorem cutsLaw (v : Value) (a : Int) (w : World) (ps : List (ThingT × ThV)) (hr : RowTh w.heap.size w v ps) (hok : ∀ p ∈ ps, okY p.1) (ha : (Lit.int .i64 a).wf = true) :
    Calls Try.prog 8 #[v, .int .i64 a] w fun e w' => e = .returned (.bool true) ∧ Below w.heap.size w w' := cuts8 v a (wf_in64 ha) ps w hr hok
end Go.Proofs.Ytocanbdpdnkapaa
