/- A list of things as an argument. -/
import Derived.Test.YtocanbdpdnkapaaV
import Derived.Test.YtocanbdpdnkapaaBase18
namespace Go.Proofs.Ytocanbdpdnkapaa
open Go.RowKit Go.WideShapes Go.ChangeShapes
set_option linter.unusedVariables false
set_option linter.unusedSimpArgs false

theorem rows_choose {α : Type} {c : Nat} (hc0 : 0 < c) (cells : α → List Value) (hlen : ∀ a, (cells a).length = c) {p : α → Prop} {B : Nat} {w : World} {v : Value} {k : Nat} {xs : List Value} (hr : Row B w v k c xs) (hok : ∀ i, i < k → ∃ a, (xs.drop (i * c)).take c = cells a ∧ p a) :
    ∃ l : List α, l.length = k ∧ RowR c cells B w v l ∧ ∀ a ∈ l, p a := by
  obtain ⟨hl, a, cap, hv, h1, h2, h3⟩ := hr
  by_cases hk : k = 0
  · subst hk
    exact ⟨[], rfl, ⟨a, cap, hv, h1, by simpa [maxLen] using h2, fun h => absurd h (by simp)⟩, fun a h => by cases h⟩
  · obtain ⟨a0, -⟩ := hok 0 (by omega)
    have hat : ∀ i, ∃ a, i < k → (xs.drop (i * c)).take c = cells a ∧ p a := fun i => by
      by_cases hi : i < k
      · obtain ⟨a, h⟩ := hok i hi; exact ⟨a, fun _ => h⟩
      · exact ⟨a0, fun h => absurd h hi⟩
    let f : Nat → α := fun i => Classical.choose (hat i)
    have hf : ∀ i, i < k → (xs.drop (i * c)).take c = cells (f i) ∧ p (f i) := fun i => Classical.choose_spec (hat i)
    refine ⟨(List.range k).map f, by simp, ⟨a, cap, by rw [hv]; simp, by simpa using h1, by simpa [maxLen] using h2, fun _ => ?_⟩, fun a ha => ?_⟩
    · obtain ⟨b, off, ha, hb, hc⟩ := h3 (by omega)
      refine ⟨b, off, ha, hb, fun i x hx j hj => ?_⟩
      have hi : i < k := by
        have := (List.getElem?_eq_some_iff.1 hx).1
        simpa using this
      have hxe : x = f i := by
        rw [List.getElem?_map, List.getElem?_range hi] at hx
        simpa using hx.symm
      have hlt : i * c + j < k * c := by have := Nat.mul_le_mul_right c hi; rw [Nat.succ_mul] at this; omega
      rw [Nat.add_assoc, hc _ hlt, hxe, ← (hf i hi).1, List.getElem?_take_of_lt hj, List.getElem?_drop, List.getD_eq_getElem?_getD, List.getElem?_eq_getElem (by omega)]
      rfl
    · rw [List.mem_map] at ha
      obtain ⟨i, hi, rfl⟩ := ha
      exact (hf i (by simpa using hi)).2
theorem row_one {α : Type} {f : α → Value} {B : Nat} {w : World} {v : Value} {l : List α} (h : RowR 1 (fun a => [f a]) B w v l) : Row B w v l.length 1 (l.map f) := by
  obtain ⟨a, cap, hv, h1, h2, h3⟩ := h
  refine ⟨by simp, a, cap, hv, h1, by simpa [maxLen] using h2, fun hn => ?_⟩
  obtain ⟨b, off, ha, hb, hc⟩ := h3 hn
  refine ⟨b, off, ha, hb, fun j hj => ?_⟩
  have hj' : j < l.length := by omega
  have := hc j l[j] (List.getElem?_eq_getElem hj') 0 (by omega)
  rw [Nat.mul_one, Nat.add_zero] at this
  rw [this]
  simp [List.getD_eq_getElem?_getD, hj']

structure okZ (sz : Nat → Prop) (t : ThingT) : Prop where
  s : sz t.s.size
  l : (∀ s ∈ t.l, sz s.size) ∧ sz t.l.length
  c : (∀ c ∈ t.cells, sz c.t.size) ∧ sz t.cells.length
  f : (∀ f ∈ t.facts, (∀ s ∈ f.dims, sz s.size) ∧ sz f.dims.length ∧ sz f.meas.length) ∧ sz t.facts.length
  m : (∀ s ∈ t.meas, sz s.size) ∧ sz t.meas.length
  n : -9223372036854775808 ≤ t.n ∧ t.n ≤ 9223372036854775807

section
variable {H : Type} {m : DataW H → Nat} {N : Nat} {sz : Nat → Prop} (M : Meter m N sz) {enc : TypeId × Value → H} {w : World} {base : Nat} {sp : Nat → Bool} {held : Bool}
include M
theorem el_strM : ∀ n cs x, DataW.trod enc Try.prog w base sp held n 9 cs = some x → m x.1 ≤ N → ∃ s : ByteArray, cs = [.string s] ∧ sz s.size := by
  intro n cs x h hm
  obtain ⟨s, h1, h2, h3⟩ := DataW.trod_string Try.underlying9 h
  rw [h2] at hm
  exact ⟨s, h1, M.str s h3 hm⟩
theorem el_textsM : ∀ n cs x, DataW.trod enc Try.prog w base sp held n 53 cs = some x → m x.1 ≤ N → ∃ v l, cs = [v] ∧ RowS w.heap.size w v l ∧ (∀ s ∈ l, sz s.size) ∧ sz l.length := by
  intro n cs x h hm
  obtain ⟨v, k, xs, rfl, hr, hok, hk⟩ := open_rowsM M (okc := fun cs => ∃ s : ByteArray, cs = [.string s] ∧ sz s.size) Try.underlying53 (by kernel_rfl : Try.prog.cellsOf 9 = 1) (by omega) (el_strM M) n cs x h hm
  obtain ⟨l, rfl, h1, h2⟩ := rows_choose (c := 1) (by omega) (fun s => [Value.string s]) (fun _ => rfl) hr hok
  exact ⟨v, l, rfl, row_one h1, h2, hk⟩
theorem el_intsM : ∀ n cs x, DataW.trod enc Try.prog w base sp held n 96 cs = some x → m x.1 ≤ N → ∃ v l, cs = [v] ∧ RowI w.heap.size w v l ∧ sz l.length := by
  intro n cs x h hm
  obtain ⟨v, k, xs, rfl, hr, hok, hk⟩ := open_rowsM M (okc := fun cs => ∃ s : Int, cs = [.int .i64 s] ∧ True) Try.underlying96 (by kernel_rfl : Try.prog.cellsOf 2 = 1) (by omega) (fun n cs x h _ => by
    obtain ⟨s, h1, -, -⟩ := DataW.trod_int Try.underlying2 h
    exact ⟨s, h1, trivial⟩) n cs x h hm
  obtain ⟨l, rfl, h1, h2⟩ := rows_choose (c := 1) (by omega) (fun s => [Value.int .i64 s]) (fun _ => rfl) hr hok
  exact ⟨v, l, rfl, row_one h1, hk⟩
set_option maxRecDepth 100000 in
theorem el_cellM : ∀ n cs x, DataW.trod enc Try.prog w base sp held n 92 cs = some x → m x.1 ≤ N → ∃ c : CellT, cs = cellC c ∧ sz c.t.size := by
  intro n cs x h hm
  obtain ⟨xs, k, _, hx, hl, hxl, hh⟩ := DataW.trod_struct Try.underlying92 h
  rw [show Try.prog.cellsOf 92 = 3 from by kernel_rfl] at hl
  have hp := fun i (hi : i < xs.length) => M.part (xs.map (·.1)) xs[i].1 (List.mem_map.2 ⟨_, List.getElem_mem hi, rfl⟩) (by rw [hx] at hm; exact hm)
  match cs, hl with
  | [x0, x1, x2], _ =>
    have g0 := hh 0 _ rfl
    have g1 := hh 1 _ rfl
    have g2 := hh 2 _ rfl
    have hxl3 : xs.length = 3 := hxl
    rw [List.getElem?_eq_getElem (by omega)] at g0 g1 g2
    have g0' : DataW.trod enc Try.prog w base sp held k 3 [x0] = some xs[0] := g0
    have g1' : DataW.trod enc Try.prog w base sp held k 2 [x1] = some xs[1] := g1
    have g2' : DataW.trod enc Try.prog w base sp held k 9 [x2] = some xs[2] := g2
    obtain ⟨a, ha, -, -⟩ := DataW.trod_int Try.underlying3 g0'
    obtain ⟨b, hb, -, -⟩ := DataW.trod_int Try.underlying2 g1'
    obtain ⟨s, hs, hz⟩ := el_strM M _ _ _ g2' (hp 2 (by omega))
    injection ha with ha _
    injection hb with hb _
    injection hs with hs _
    subst ha hb hs
    exact ⟨⟨a, b, s⟩, rfl, hz⟩
theorem el_cellsM : ∀ n cs x, DataW.trod enc Try.prog w base sp held n 54 cs = some x → m x.1 ≤ N → ∃ v l, cs = [v] ∧ RowC w.heap.size w v l ∧ (∀ c ∈ l, sz c.t.size) ∧ sz l.length := by
  intro n cs x h hm
  obtain ⟨v, k, xs, rfl, hr, hok, hk⟩ := open_rowsM M (okc := fun cs => ∃ c : CellT, cs = cellC c ∧ sz c.t.size) Try.underlying54 (by kernel_rfl : Try.prog.cellsOf 92 = 3) (by omega) (el_cellM M) n cs x h hm
  obtain ⟨l, rfl, h1, h2⟩ := rows_choose (c := 3) (by omega) cellC (fun _ => rfl) hr hok
  exact ⟨v, l, rfl, h1, h2, hk⟩
set_option maxRecDepth 100000 in
theorem el_factM : ∀ n cs x, DataW.trod enc Try.prog w base sp held n 98 cs = some x → m x.1 ≤ N →
    ∃ q : FactT × Value × Value, cs = [q.2.1, q.2.2] ∧ (RowS w.heap.size w q.2.1 q.1.dims ∧ RowI w.heap.size w q.2.2 q.1.meas ∧ (∀ s ∈ q.1.dims, sz s.size) ∧ sz q.1.dims.length ∧ sz q.1.meas.length) := by
  intro n cs x h hm
  obtain ⟨xs, k, _, hx, hl, hxl, hh⟩ := DataW.trod_struct Try.underlying98 h
  rw [show Try.prog.cellsOf 98 = 2 from by kernel_rfl] at hl
  have hp := fun i (hi : i < xs.length) => M.part (xs.map (·.1)) xs[i].1 (List.mem_map.2 ⟨_, List.getElem_mem hi, rfl⟩) (by rw [hx] at hm; exact hm)
  match cs, hl with
  | [x0, x1], _ =>
    have g0 := hh 0 _ rfl
    have g1 := hh 1 _ rfl
    have hxl2 : xs.length = 2 := hxl
    rw [List.getElem?_eq_getElem (by omega)] at g0 g1
    have g0' : DataW.trod enc Try.prog w base sp held k 53 [x0] = some xs[0] := g0
    have g1' : DataW.trod enc Try.prog w base sp held k 96 [x1] = some xs[1] := g1
    obtain ⟨vd, ld, hd, r1, r2, r3⟩ := el_textsM M _ _ _ g0' (hp 0 (by omega))
    obtain ⟨vm, lm, hm, r4, r5⟩ := el_intsM M _ _ _ g1' (hp 1 (by omega))
    injection hd with hd _
    injection hm with hm _
    subst hd hm
    exact ⟨⟨⟨ld, lm⟩, _, _⟩, rfl, r1, r4, r2, r3, r5⟩
theorem el_factsM : ∀ n cs x, DataW.trod enc Try.prog w base sp held n 55 cs = some x → m x.1 ≤ N → ∃ v l, cs = [v] ∧ RowF w.heap.size w v l ∧ (∀ f ∈ l, (∀ s ∈ f.dims, sz s.size) ∧ sz f.dims.length ∧ sz f.meas.length) ∧ sz l.length := by
  intro n cs x h hm
  obtain ⟨v, k, xs, rfl, hr, hok, hk⟩ := open_rowsM M (okc := fun cs => ∃ q : FactT × Value × Value, cs = [q.2.1, q.2.2] ∧ (RowS w.heap.size w q.2.1 q.1.dims ∧ RowI w.heap.size w q.2.2 q.1.meas ∧ (∀ s ∈ q.1.dims, sz s.size) ∧ sz q.1.dims.length ∧ sz q.1.meas.length)) Try.underlying55 (by kernel_rfl : Try.prog.cellsOf 98 = 2) (by omega) (el_factM M) n cs x h hm
  obtain ⟨l, rfl, ⟨a, cap, hv, h1, h2, h3⟩, hel⟩ := rows_choose (c := 2) (by omega) (fun q : FactT × Value × Value => [q.2.1, q.2.2]) (fun _ => rfl) hr hok
  refine ⟨v, l.map (·.1), rfl, ⟨l.map (·.2), by simp, ⟨a, cap, by simpa using hv, by simpa using h1, h2, fun hn => ?_⟩, fun i f p hf hp => ?_⟩, fun f hf => ?_, by simpa using hk⟩
  · obtain ⟨b, off, ha, hb, hc⟩ := h3 (by simpa using hn)
    refine ⟨b, off, ha, hb, fun i x hx j hj => ?_⟩
    rw [List.getElem?_map, Option.map_eq_some_iff] at hx
    obtain ⟨q, hq, rfl⟩ := hx
    exact hc i q hq j hj
  · rw [List.getElem?_map, Option.map_eq_some_iff] at hf hp
    obtain ⟨q, hq, rfl⟩ := hf
    obtain ⟨q2, hq2, rfl⟩ := hp
    obtain rfl : q = q2 := Option.some.inj (hq.symm.trans hq2)
    have := hel q (List.mem_of_getElem? hq)
    exact ⟨this.1, this.2.1⟩
  · rw [List.mem_map] at hf
    obtain ⟨q, hq, rfl⟩ := hf
    exact (hel q hq).2.2
set_option maxRecDepth 100000 in
theorem el_thingM : ∀ n cs x, DataW.trod enc Try.prog w base sp held n 57 cs = some x → m x.1 ≤ N → ∃ q : ThingT × ThV, cs = (thingC q.1 q.2).toList ∧ (RowsT w.heap.size w q.1 q.2 ∧ okZ sz q.1) := by
  intro n cs x h hm
  obtain ⟨xs, k, _, hx, hl, hxl, hh⟩ := DataW.trod_struct Try.underlying57 h
  rw [show Try.prog.cellsOf 57 = 7 from by kernel_rfl] at hl
  have hp := fun i (hi : i < xs.length) => M.part (xs.map (·.1)) xs[i].1 (List.mem_map.2 ⟨_, List.getElem_mem hi, rfl⟩) (by rw [hx] at hm; exact hm)
  match cs, hl with
  | [x0, x1, x2, x3, x4, x5, x6], _ =>
    have g0 := hh 0 _ rfl
    have g1 := hh 1 _ rfl
    have g2 := hh 2 _ rfl
    have g3 := hh 3 _ rfl
    have g4 := hh 4 _ rfl
    have g5 := hh 5 _ rfl
    have g6 := hh 6 _ rfl
    have hxl7 : xs.length = 7 := hxl
    rw [List.getElem?_eq_getElem (by omega)] at g0 g1 g2 g3 g4 g5 g6
    have g0' : DataW.trod enc Try.prog w base sp held k 3 [x0] = some xs[0] := g0
    have g1' : DataW.trod enc Try.prog w base sp held k 2 [x1] = some xs[1] := g1
    have g2' : DataW.trod enc Try.prog w base sp held k 9 [x2] = some xs[2] := g2
    have g3' : DataW.trod enc Try.prog w base sp held k 53 [x3] = some xs[3] := g3
    have g4' : DataW.trod enc Try.prog w base sp held k 54 [x4] = some xs[4] := g4
    have g5' : DataW.trod enc Try.prog w base sp held k 55 [x5] = some xs[5] := g5
    have g6' : DataW.trod enc Try.prog w base sp held k 53 [x6] = some xs[6] := g6
    obtain ⟨a, ha, -, -⟩ := DataW.trod_int Try.underlying3 g0'
    obtain ⟨b, hb, -, hw⟩ := DataW.trod_int Try.underlying2 g1'
    obtain ⟨s, hs, hz⟩ := el_strM M _ _ _ g2' (hp 2 (by omega))
    obtain ⟨v3, l3, h3, r3⟩ := el_textsM M _ _ _ g3' (hp 3 (by omega))
    obtain ⟨v4, l4, h4, r4⟩ := el_cellsM M _ _ _ g4' (hp 4 (by omega))
    obtain ⟨v5, l5, h5, r5⟩ := el_factsM M _ _ _ g5' (hp 5 (by omega))
    obtain ⟨v6, l6, h6, r6⟩ := el_textsM M _ _ _ g6' (hp 6 (by omega))
    injection ha with ha _
    injection hb with hb _
    injection hs with hs _
    injection h3 with h3 _
    injection h4 with h4 _
    injection h5 with h5 _
    injection h6 with h6 _
    subst ha hb hs h3 h4 h5 h6
    have hmin : IntKind.i64.min = -9223372036854775808 := rfl
    have hmax : IntKind.i64.max = 9223372036854775807 := rfl
    simp only [Lit.wf, Bool.and_eq_true, decide_eq_true_eq] at hw
    exact ⟨⟨⟨a, b, s, l3, l4, l5, l6⟩, ⟨_, _, _, _⟩⟩, rfl, ⟨r3.1, r4.1, r5.1, r6.1⟩, ⟨hz, r3.2, r4.2, r5.2, r6.2, by show -9223372036854775808 ≤ b ∧ b ≤ 9223372036854775807; omega⟩⟩
theorem open_things {v : Value} {d : DataW H} {ps : List MemPlace} (hv : ∃ a len cap, v = .slice a len cap) (hd : DataW.Trod enc Try.prog w base sp held 47 v d ps) (hm : m d ≤ N) :
    ∃ l : List (ThingT × ThV), RowTh w.heap.size w v l ∧ (∀ p ∈ l, okZ sz p.1) ∧ sz l.length := by
  obtain ⟨a, len, cap, rfl⟩ := hv
  obtain ⟨n, h⟩ := hd
  obtain ⟨v', k, xs, hvv, hr, hok, hk⟩ := open_rowsM M (okc := fun cs => ∃ q : ThingT × ThV, cs = (thingC q.1 q.2).toList ∧ (RowsT w.heap.size w q.1 q.2 ∧ okZ sz q.1)) Try.underlying47 (by kernel_rfl : Try.prog.cellsOf 57 = 7) (by omega) (el_thingM M) n _ (d, ps) h hm
  have hvv : [Value.slice a len cap] = [v'] := hvv
  injection hvv with hvv _
  subst hvv
  obtain ⟨l, rfl, h1, h2⟩ := rows_choose (c := 7) (by omega) (fun q : ThingT × ThV => (thingC q.1 q.2).toList) (fun _ => rfl) hr hok
  exact ⟨l, ⟨h1, fun p hp => (h2 p hp).1⟩, fun p hp => (h2 p hp).2, hk⟩
end
theorem okZ.th {t : ThingT} (h : okZ (· ≤ Small) t) : okTh t := ⟨⟨h.s, h.l, h.c, ⟨fun f hf => ⟨(h.f.1 f hf).1, (h.f.1 f hf).2.1, (h.f.1 f hf).2.2⟩, h.f.2⟩, h.m⟩, h.n⟩
theorem writesLaw (v : Value) (w : World) (ps : List (ThingT × ThV)) (hr : RowTh w.heap.size w v ps) (hok : ∀ p ∈ ps, okZ (· ≤ Small) p.1) :
    Calls Try.prog 5 #[v] w fun e w' => e = .returned (.bool true) ∧ Below w.heap.size w w' := writes5 v ps w hr (fun p hp => (hok p hp).th)
end Go.Proofs.Ytocanbdpdnkapaa
