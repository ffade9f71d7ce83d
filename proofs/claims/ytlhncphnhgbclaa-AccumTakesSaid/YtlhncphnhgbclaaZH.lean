/- AccumTakes: as the row asks it. -/
import Derived.Test.YtlhncphnhgbclaaZG
import Derived.Test.YtlhncphnhgbclaaV
import Derived.SizedLaws
namespace Go.Proofs.Ytlhncphnhgbclaa
open Go.RowKit Go.WideShapes Go.ChangeShapes
set_option linter.unusedVariables false
set_option linter.unusedSimpArgs false

theorem map_two {A B : Type} (xs : List (A × B)) (h : xs.length = 2) : xs.map (·.1) = [(xs[0]'(by omega)).1, (xs[1]'(by omega)).1] := by
  match xs, h with
  | [_, _], _ => rfl
theorem open_accS {H : Type} {enc : TypeId × Value → H} {w : World} {r : Reach} {base b : Nat} {sp : Nat → Bool} {held : Bool} {v : Value} {d : DataW H} {ps0 : List MemPlace}
    (h : Value.okWide Try.prog w r base 39 v) (hd : DataW.Trod enc Try.prog w b sp held 39 v d ps0) : ∃ (c : Int) (vs : Value) (ps : List Prt), v = .agg #[.int .i64 c, vs] ∧ RowP w.heap.size w vs ps ∧ Som vs ps.length ∧ (ps.length = 0 ∨ ∃ x el s, d = .agg [x, .slice el s] ∧ el.length = ps.length) := by
  have h' : ∃ cs, v = .agg cs ∧ cs.size = Try.prog.cellsOf 39 ∧ Row.okWide Try.prog w r base 39 cs := by
    unfold Value.okWide at h
    rw [Try.underlying39] at h
    exact h
  obtain ⟨cs, rfl, hz, -⟩ := h'
  rw [show Try.prog.cellsOf 39 = 2 from by kernel_rfl] at hz
  obtain ⟨fuel, hf⟩ := hd
  obtain ⟨l, rfl⟩ : ∃ l : List Value, cs = l.toArray := ⟨cs.toList, by simp⟩
  match l, hz with
  | [x, y], _ =>
    have hf2 : DataW.trod enc Try.prog w b sp held fuel 39 [x, y] = some (d, ps0) := by simpa [Value.cells] using hf
    obtain ⟨xs, m, _, hxe, _, hxl, hh⟩ := DataW.trod_struct Try.underlying39 hf2
    have g0 := hh 0 _ rfl
    have g1 := hh 1 _ rfl
    have hxl2 : xs.length = 2 := hxl
    rw [List.getElem?_eq_getElem (by omega)] at g0 g1
    have g0' : DataW.trod enc Try.prog w b sp held m 3 [x] = some xs[0] := g0
    have g1' : DataW.trod enc Try.prog w b sp held m 37 [y] = some xs[1] := g1
    obtain ⟨c, hc, -, -⟩ := DataW.trod_int Try.underlying3 g0'
    injection hc with hc
    subst hc
    have hy : ∃ a len cap, y = .slice a len cap ∧ (a = none → len = 0 ∧ cap = 0) := by
      rcases DataW.trod_slice Try.underlying37 g1' with ⟨h0, -⟩ | ⟨a, len, cap, _, _, _, _, h1, _⟩
      · injection h0 with h0; exact ⟨_, _, _, h0, fun _ => ⟨rfl, rfl⟩⟩
      · injection h1 with h1; exact ⟨_, _, _, h1, fun e => by cases e⟩
    obtain ⟨a, len, cap, rfl, hnone⟩ := hy
    obtain ⟨n, zs, hr, hok, hsz⟩ := open_rows (okc := fun cs => ∃ p : Prt, cs = partC p) (d := xs[1].1) (ps := xs[1].2) Try.underlying37 (c := 5) (by kernel_rfl) (by omega) el_part ⟨a, len, cap, rfl⟩ ⟨m, g1'⟩
    obtain ⟨ps, h1, h2⟩ := rows_parts n zs hr.len hok
    subst h1 h2
    refine ⟨c, _, ps, rfl, hr, ?_, ?_⟩
    · obtain ⟨_, a', k', e, -⟩ := hr
      injection e with e1 e2 e3
      subst e1 e2 e3
      cases a with
      | none => obtain ⟨h1, h2⟩ := hnone rfl; rw [h1, h2]; exact .inl rfl
      | some a => exact .inr ⟨a, _, rfl⟩
    · rcases hsz with h | ⟨el, s, he, hl⟩
      · exact .inl h
      · refine .inr ⟨xs[0].1, el, s, ?_, hl⟩
        rw [(Prod.mk.inj hxe).1, ← he]
        exact congrArg DataW.agg (map_two xs hxl2)


theorem sized_acc {H : Type} {ts : List TypeId} {ds : List (DataW H)} (h : (DataW.weightsEach Try.prog ts ds).all (· ≤ reachBytes) = true) {j n : Nat} {x : DataW H} {el s : List (DataW H)} (ht : ts[j]? = some 39) (hd : ds[j]? = some (.agg [x, .slice el s])) (hn : el.length = n) :
    n * 40 ≤ 140737488351232 := by
  obtain ⟨fs, hu, hf⟩ : ∃ fs : Array Field, Try.prog.underlying 39 = some (.struct fs) ∧ fs.toList.map (·.type) = [3, 37] := ⟨_, Try.underlying39, rfl⟩
  have := List.all_eq_true.1 h _ (DataW.weights_mem_each ht hd ((el.length + s.length) * 40) (by
    unfold DataW.weights
    rw [hu]
    simp only [hf, DataW.weightsEach, List.mem_append]
    refine .inr (.inl ?_)
    unfold DataW.weights
    rw [Try.underlying37]
    simp only [List.mem_cons]
    left
    rw [show Try.prog.bytesOf 46 = 40 from by kernel_rfl]))
  have h2 : (el.length + s.length) * 40 ≤ 140737488351232 := of_decide_eq_true this
  omega

theorem takesLaw (c1 : Int) (va : Value) (c2 : Int) (vb : Value) (vm : Value) (w : World) (ps : List Prt) (h1 : RowP w.heap.size w va ps) (s1 : Som va ps.length) (b1 : ps.length * 40 ≤ 140737488351232) (qs : List Prt) (h2 : RowP w.heap.size w vb qs) (s2 : Som vb qs.length) (b2 : qs.length * 40 ≤ 140737488351232)
    (ms : List Int) (hm : RowI w.heap.size w vm ms) (hx : ∀ x ∈ ms, (Lit.int .i64 x).wf = true) (_hw : ms.length * 8 ≤ 140737488351232) :
    Calls Try.prog 8 #[.agg #[.int .i64 c1, va], .agg #[.int .i64 c2, vb], vm] w fun e w' => e = .returned (.bool true) ∧ Below w.heap.size w w' :=
  takes8 ps qs ms c1 c2 va vb vm w h1 s1 h2 s2 hm b1 b2 (fun i hi => wf_bd (hx _ (by rw [List.getD_eq_getElem?_getD, List.getElem?_eq_getElem hi]; exact List.getElem_mem hi)))
end Go.Proofs.Ytlhncphnhgbclaa
