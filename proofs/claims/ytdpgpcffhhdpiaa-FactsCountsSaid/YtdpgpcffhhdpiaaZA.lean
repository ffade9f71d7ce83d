/- Batches of facts as an argument. -/
import Derived.Test.YtdpgpcffhhdpiaaZ
import Derived.Test.YtdpgpcffhhdpiaaBase14
namespace Go.Proofs.Ytdpgpcffhhdpiaa
open Go.RowKit Go.Maps Go.WideShapes Go.ChangeShapes
set_option linter.unusedVariables false
set_option linter.unusedSimpArgs false

/-- batches of facts that can be read -/
def RowBs (w : World) (v : Value) (bs : List (List FactT)) : Prop := ∃ vs : List Value, vs.length = bs.length ∧ Row w.heap.size w v bs.length 1 vs ∧ ∀ (k : Nat) (b : List FactT) (x : Value), bs[k]? = some b → vs[k]? = some x → RowF w.heap.size w x b
section
variable {H : Type} {enc : TypeId × Value → H} {w : World} {base : Nat} {sp : Nat → Bool} {held : Bool}
theorem el_texts : ∀ n cs x, DataW.trod enc Try.prog w base sp held n 38 cs = some x → ∃ v l, cs = [v] ∧ RowS w.heap.size w v l ∧ ∀ s ∈ l, s.size ≤ maxLen := by
  intro n cs x h
  obtain ⟨v, k, xs, rfl, hr, hok⟩ := open_rowsN (okc := fun cs => ∃ s : ByteArray, cs = [.string s] ∧ s.size ≤ maxLen) Try.underlying38 (by kernel_rfl : Try.prog.cellsOf 9 = 1) (by omega) (el_str Try.underlying9) n cs x h
  obtain ⟨l, rfl, h1, h2⟩ := rows_choose (c := 1) (by omega) (fun s => [Value.string s]) (fun _ => rfl) hr hok
  exact ⟨v, l, rfl, row_one h1, h2⟩
theorem el_numbers : ∀ n cs x, DataW.trod enc Try.prog w base sp held n 39 cs = some x → ∃ v l, cs = [v] ∧ RowI w.heap.size w v l := by
  intro n cs x h
  obtain ⟨v, k, xs, rfl, hr, hok⟩ := open_rowsN (okc := fun cs => ∃ s : Int, cs = [.int .i64 s] ∧ True) Try.underlying39 (by kernel_rfl : Try.prog.cellsOf 2 = 1) (by omega) (fun n cs x h => by
    obtain ⟨s, h1, -, -⟩ := DataW.trod_int Try.underlying2 h
    exact ⟨s, h1, trivial⟩) n cs x h
  obtain ⟨l, rfl, h1, h2⟩ := rows_choose (c := 1) (by omega) (fun s => [Value.int .i64 s]) (fun _ => rfl) hr hok
  exact ⟨v, l, rfl, row_one h1⟩
set_option maxRecDepth 100000 in
theorem el_fact : ∀ n cs x, DataW.trod enc Try.prog w base sp held n 41 cs = some x →
    ∃ q : FactT × Value × Value, cs = [q.2.1, q.2.2] ∧ (RowS w.heap.size w q.2.1 q.1.dims ∧ RowI w.heap.size w q.2.2 q.1.meas ∧ (∀ s ∈ q.1.dims, s.size ≤ maxLen)) := by
  intro n cs x h
  obtain ⟨xs, k, _, hx, hl, hxl, hh⟩ := DataW.trod_struct Try.underlying41 h
  rw [show Try.prog.cellsOf 41 = 2 from by kernel_rfl] at hl
  match cs, hl with
  | [x0, x1], _ =>
    have g0 := hh 0 _ rfl
    have g1 := hh 1 _ rfl
    have hxl2 : xs.length = 2 := hxl
    rw [List.getElem?_eq_getElem (by omega)] at g0 g1
    have g0' : DataW.trod enc Try.prog w base sp held k 38 [x0] = some xs[0] := g0
    have g1' : DataW.trod enc Try.prog w base sp held k 39 [x1] = some xs[1] := g1
    obtain ⟨vd, ld, hd, r1, r2⟩ := el_texts _ _ _ g0'
    obtain ⟨vm, lm, hm, r4⟩ := el_numbers _ _ _ g1'
    injection hd with hd _
    injection hm with hm _
    subst hd hm
    exact ⟨⟨⟨ld, lm⟩, _, _⟩, rfl, r1, r4, r2⟩
theorem el_facts : ∀ n cs x, DataW.trod enc Try.prog w base sp held n 30 cs = some x → ∃ q : Value × List FactT, cs = [q.1] ∧ (RowF w.heap.size w q.1 q.2 ∧ (∀ f ∈ q.2, shortF f)) := by
  intro n cs x h
  obtain ⟨v, k, xs, rfl, hr, hok⟩ := open_rowsN (okc := fun cs => ∃ q : FactT × Value × Value, cs = [q.2.1, q.2.2] ∧ (RowS w.heap.size w q.2.1 q.1.dims ∧ RowI w.heap.size w q.2.2 q.1.meas ∧ (∀ s ∈ q.1.dims, s.size ≤ maxLen))) Try.underlying30 (by kernel_rfl : Try.prog.cellsOf 41 = 2) (by omega) el_fact n cs x h
  obtain ⟨l, rfl, ⟨a, cap, hv, h1, h2, h3⟩, hel⟩ := rows_choose (c := 2) (by omega) (fun q : FactT × Value × Value => [q.2.1, q.2.2]) (fun _ => rfl) hr hok
  refine ⟨(v, l.map (·.1)), rfl, ⟨l.map (·.2), by simp, ⟨a, cap, by simpa using hv, by simpa using h1, h2, fun hn => ?_⟩, fun i f p hf hp => ?_⟩, fun f hf => ?_⟩
  · obtain ⟨b, off, ha, hb, hc⟩ := h3 (by simpa using hn)
    refine ⟨b, off, ha, hb, fun i x hx j hj => ?_⟩
    rw [List.getElem?_map, Option.map_eq_some_iff] at hx
    obtain ⟨q, hq, rfl⟩ := hx
    exact hc i q hq j hj
  · rw [List.getElem?_map, Option.map_eq_some_iff] at hf hp
    obtain ⟨q, hq, rfl⟩ := hf
    obtain ⟨q2, hq2, rfl⟩ := hp
    obtain rfl : q = q2 := Option.some.inj (hq.symm.trans hq2)
    have := hel q (List.mem_of_getElem? hq)
    exact ⟨this.1, this.2.1⟩
  · rw [List.mem_map] at hf
    obtain ⟨q, hq, rfl⟩ := hf
    have := (hel q hq).2.2
    intro s hs
    have := this s hs
    unfold maxLen at this
    omega
theorem open_batches {v : Value} {d : DataW H} {ps : List MemPlace} (hv : ∃ a len cap, v = .slice a len cap) (hd : DataW.Trod enc Try.prog w base sp held 22 v d ps) :
    ∃ bs : List (List FactT), RowBs w v bs ∧ (∀ b ∈ bs, ∀ f ∈ b, shortF f) := by
  obtain ⟨n, xs, hr, hok, -⟩ := open_rows (okc := fun cs => ∃ q : Value × List FactT, cs = [q.1] ∧ (RowF w.heap.size w q.1 q.2 ∧ (∀ f ∈ q.2, shortF f))) Try.underlying22 (by kernel_rfl : Try.prog.cellsOf 30 = 1) (by omega) el_facts hv hd
  obtain ⟨l, rfl, h1, hel⟩ := rows_choose (c := 1) (by omega) (fun q : Value × List FactT => [q.1]) (fun _ => rfl) hr hok
  have h2 := row_one (f := fun q : Value × List FactT => q.1) h1
  refine ⟨l.map (·.2), ⟨l.map (·.1), by simp, by simpa using h2, fun k b x hb hx => ?_⟩, fun b hb => ?_⟩
  · rw [List.getElem?_map, Option.map_eq_some_iff] at hb hx
    obtain ⟨q, hq, rfl⟩ := hb
    obtain ⟨q2, hq2, rfl⟩ := hx
    obtain rfl : q = q2 := Option.some.inj (hq.symm.trans hq2)
    exact (hel q (List.mem_of_getElem? hq)).1
  · rw [List.mem_map] at hb
    obtain ⟨q, hq, rfl⟩ := hb
    exact (hel q hq).2
end
/-- one batch, whatever is made above -/
theorem RowBs.open {w : World} {v : Value} {bs : List (List FactT)} (h : RowBs w v bs) : ∃ a cap, v = .slice a bs.length cap ∧ bs.length ≤ cap ∧ cap ≤ 9223372036854775807 ∧
    ∀ k b, bs[k]? = some b → ∃ g off x, a = some ⟨g, off, none⟩ ∧ g < w.heap.size ∧ w.cell? ⟨g, off + k, none⟩ = some x ∧ RowF w.heap.size w x b := by
  obtain ⟨vs, hl, ⟨hl2, a, cap, rfl, h1, h2, h3⟩, hel⟩ := h
  refine ⟨a, cap, rfl, h1, by simpa [maxLen] using h2, fun k b hb => ?_⟩
  have hk := (List.getElem?_eq_some_iff.1 hb).1
  obtain ⟨g, off, ha, hg, hc⟩ := h3 (by omega)
  refine ⟨g, off, _, ha, hg, hc k (by omega), hel k b _ hb ?_⟩
  rw [List.getD_eq_getElem?_getD, List.getElem?_eq_getElem (by omega)]
  rfl
end Go.Proofs.Ytdpgpcffhhdpiaa
