/- A list of elements as an argument; the law of SetsCross. -/
import Derived.Test.YtbcnmkdlaoaoeaaO
namespace Go.Proofs.Ytbcnmkdlaoaoeaa
open Go.RowKit Go.WideShapes Go.ChangeShapes
set_option linter.unusedVariables false
set_option linter.unusedSimpArgs false

theorem el_strs {H : Type} {enc : TypeId × Value → H} {w : World} {base : Nat} {sp : Nat → Bool} {held : Bool} :
    ∀ n cs x, DataW.trod enc Try.prog w base sp held n 24 cs = some x → ∃ v l, cs = [v] ∧ RowS w.heap.size w v l := by
  intro n cs x h
  obtain ⟨v, m, xs, rfl, hr, hok⟩ := open_rowsN (okc := fun cs => ∃ s : ByteArray, cs = [.string s] ∧ s.size ≤ maxLen) Try.underlying24 (by kernel_rfl : Try.prog.cellsOf 9 = 1) (by omega) (el_str Try.underlying9) n cs x h
  obtain ⟨l, hl, h1, -⟩ := rows_strs hr hok
  exact ⟨v, l, rfl, h1⟩
theorem el_lists {H : Type} {enc : TypeId × Value → H} {w : World} {base : Nat} {sp : Nat → Bool} {held : Bool} :
    ∀ n cs x, DataW.trod enc Try.prog w base sp held n 26 cs = some x → ∃ v ls, cs = [v] ∧ RowL w.heap.size w v ls := by
  intro n cs x h
  obtain ⟨v, m, xs, rfl, hr, hok⟩ := open_rowsN (okc := fun cs => ∃ v l, cs = [v] ∧ RowS w.heap.size w v l) Try.underlying26 (by kernel_rfl : Try.prog.cellsOf 24 = 1) (by omega) el_strs n cs x h
  have hl : xs.length = m := by have := hr.len; omega
  have hat : ∀ i, ∃ l, i < m → RowS w.heap.size w (xs.getD i undef) l := fun i => by
    by_cases hi : i < m
    · obtain ⟨v, l, h1, h2⟩ := hok i hi
      rw [Nat.mul_one, List.drop_eq_getElem_cons (by omega)] at h1
      injection h1 with h1 _
      refine ⟨l, fun _ => ?_⟩
      rw [List.getD_eq_getElem?_getD, List.getElem?_eq_getElem (by omega)]
      show RowS w.heap.size w xs[i] l
      rw [h1]; exact h2
    · exact ⟨[], fun h => absurd h hi⟩
  let f : Nat → List ByteArray := fun i => Classical.choose (hat i)
  have hf : ∀ i, i < m → RowS w.heap.size w (xs.getD i undef) (f i) := fun i => Classical.choose_spec (hat i)
  refine ⟨v, (List.range m).map f, rfl, xs, by simp [hl], by simpa using hr, fun j hj => ?_⟩
  have hj' : j < m := by simpa using hj
  have e : ((List.range m).map f).getD j [] = f j := by simp [List.getD_eq_getElem?_getD, hj']
  rw [e]
  exact hf j hj'
theorem el_grp {H : Type} {enc : TypeId × Value → H} {w : World} {base : Nat} {sp : Nat → Bool} {held : Bool} :
    ∀ n cs x, DataW.trod enc Try.prog w base sp held n 32 cs = some x → ∃ x y z g, cs = [x, y, z] ∧ GrpAt w.heap.size w x y z g := by
  intro n cs x h
  obtain ⟨xs, m, _, -, hl, hxl, hh⟩ := DataW.trod_struct Try.underlying32 h
  rw [show Try.prog.cellsOf 32 = 3 from by kernel_rfl] at hl
  match cs, hl with
  | [x0, x1, x2], _ =>
    have g0 := hh 0 _ rfl
    have g1 := hh 1 _ rfl
    have g2 := hh 2 _ rfl
    have hxl3 : xs.length = 3 := hxl
    rw [List.getElem?_eq_getElem (by omega)] at g0 g1 g2
    have g0' : DataW.trod enc Try.prog w base sp held m 3 [x0] = some xs[0] := g0
    have g1' : DataW.trod enc Try.prog w base sp held m 24 [x1] = some xs[1] := g1
    have g2' : DataW.trod enc Try.prog w base sp held m 26 [x2] = some xs[2] := g2
    obtain ⟨a, ha, -, -⟩ := DataW.trod_int Try.underlying3 g0'
    obtain ⟨vb, lb, hb, rb⟩ := el_strs _ _ _ g1'
    obtain ⟨vc, lc, hc, rc⟩ := el_lists _ _ _ g2'
    injection ha with ha _
    injection hb with hb _
    injection hc with hc _
    subst ha hb hc
    exact ⟨_, _, _, ⟨a, lb, lc⟩, rfl, rfl, rb, rc⟩
theorem open_grps {H : Type} {enc : TypeId × Value → H} {w : World} {base : Nat} {sp : Nat → Bool} {held : Bool} {v : Value} {d : DataW H} {ps : List MemPlace}
    (hv : ∃ a len cap, v = .slice a len cap) (hd : DataW.Trod enc Try.prog w base sp held 33 v d ps) :
    ∃ gs : List Grp, RowG w.heap.size w v gs ∧ (gs.length = 0 ∨ ∃ el s, d = .slice el s ∧ el.length = gs.length) := by
  obtain ⟨n, xs, hr, hok, hs⟩ := open_rows (okc := fun cs => ∃ x y z g, cs = [x, y, z] ∧ GrpAt w.heap.size w x y z g) Try.underlying33 (c := 3) (by kernel_rfl) (by omega) el_grp hv hd
  have hl := hr.len
  have hat : ∀ i, ∃ g, i < n → GrpAt w.heap.size w (xs.getD (i * 3) undef) (xs.getD (i * 3 + 1) undef) (xs.getD (i * 3 + 2) undef) g := fun i => by
    by_cases hi : i < n
    · obtain ⟨x, y, z, g, h1, h2⟩ := hok i hi
      refine ⟨g, fun _ => ?_⟩
      have e : ∀ r, r < 3 → xs.getD (i * 3 + r) undef = [x, y, z].getD r undef := fun r hr3 => by
        rw [← h1]
        simp [List.getD_eq_getElem?_getD, List.getElem?_take, hr3]
      have e0 := e 0 (by omega)
      rw [Nat.add_zero] at e0
      rw [e0, e 1 (by omega), e 2 (by omega)]
      exact h2
    · exact ⟨zeroG, fun h => absurd h hi⟩
  let f : Nat → Grp := fun i => Classical.choose (hat i)
  have hf := fun i => Classical.choose_spec (hat i)
  refine ⟨(List.range n).map f, ⟨xs, by simpa using hr, fun j hj => ?_⟩, by simpa using hs⟩
  have hj' : j < n := by simpa using hj
  have e : ((List.range n).map f).getD j zeroG = f j := by simp [List.getD_eq_getElem?_getD, hj']
  rw [e]
  exact hf j hj'

theorem crossLaw (va vb : Value) (w : World) (a : List Grp) (ha : RowG w.heap.size w va a) (hwa : a.length ≤ 1048576) (b : List Grp) (hb : RowG w.heap.size w vb b) (hwb : b.length ≤ 1048576) :
    Calls Try.prog 4 #[va, vb] w fun e w' => e = .returned (.bool true) ∧ Below w.heap.size w w' :=
  cross4 a b va vb w ha hb (by omega) (by omega) (by omega)
end Go.Proofs.Ytbcnmkdlaoaoeaa
