/- Opening slices of texts, and slices inside of elements. -/
import Derived.Test.YtkndcofmhfeaoaaBase7
namespace Go.Proofs.Ytkndcofmhfeaoaa
open Go.RowKit Go.WideShapes Go.ChangeShapes
set_option linter.unusedVariables false
set_option linter.unusedSimpArgs false

theorem open_rowsN {H : Type} {enc : TypeId × Value → H} {P : Program} {w : World} {base : Nat} {sp : Nat → Bool} {held : Bool} {t e : TypeId} {c : Nat} {okc : List Value → Prop} (ht : P.underlying t = some (.slice e)) (hc : P.cellsOf e = c) (hc0 : 0 < c)
    (hel : ∀ n cs x, DataW.trod enc P w base sp held n e cs = some x → okc cs) :
    ∀ n cs x, DataW.trod enc P w base sp held n t cs = some x → ∃ (v : Value) (m : Nat) (xs : List Value), cs = [v] ∧ Row w.heap.size w v m c xs ∧ ∀ i, i < m → okc ((xs.drop (i * c)).take c) := by
  intro n cs x h
  have hv : ∃ a len cap, cs = [.slice a len cap] := by
    rcases DataW.trod_slice ht h with ⟨h0, -⟩ | ⟨a, len, cap, _, _, _, _, h1, -⟩
    · exact ⟨none, 0, 0, h0⟩
    · exact ⟨some a, len, cap, h1⟩
  obtain ⟨a, len, cap, rfl⟩ := hv
  obtain ⟨m, xs, h1, h2, -⟩ := open_rows (v := .slice a len cap) (d := x.1) (ps := x.2) ht hc hc0 hel ⟨a, len, cap, rfl⟩ ⟨n, h⟩
  exact ⟨_, m, xs, rfl, h1, h2⟩

def strAt (v : Value) : ByteArray := match v with | .string s => s | _ => ByteArray.empty
theorem rows_strs {B : Nat} {w : World} {v : Value} {n : Nat} {xs : List Value} {p : ByteArray → Prop} (hr : Row B w v n 1 xs) (hok : ∀ i, i < n → ∃ s, (xs.drop (i * 1)).take 1 = [.string s] ∧ p s) :
    ∃ l : List ByteArray, l.length = n ∧ Row B w v l.length 1 (l.map Value.string) ∧ ∀ s ∈ l, p s := by
  have hl : xs.length = n := by have := hr.len; omega
  have hat : ∀ i, (h : i < xs.length) → ∃ s, xs[i] = .string s ∧ p s := fun i h => by
    obtain ⟨s, hs, hp⟩ := hok i (by omega)
    rw [Nat.mul_one, List.drop_eq_getElem_cons h] at hs
    injection hs with hs _
    exact ⟨s, hs, hp⟩
  have e : xs = (xs.map strAt).map Value.string := by
    apply List.ext_getElem
    · simp
    · intro i h1 h2
      obtain ⟨s, hs, -⟩ := hat i h1
      simp [hs, strAt]
  refine ⟨xs.map strAt, by rw [List.length_map, hl], ?_, ?_⟩
  · rw [← e, List.length_map, hl]; exact hr
  · intro s hs
    rw [List.mem_map] at hs
    obtain ⟨y, hy, rfl⟩ := hs
    obtain ⟨i, hi, rfl⟩ := List.getElem_of_mem hy
    obtain ⟨s, hs, hp⟩ := hat i hi
    rw [hs]; exact hp

theorem el_str {H : Type} {enc : TypeId × Value → H} {P : Program} {w : World} {base : Nat} {sp : Nat → Bool} {held : Bool} {e : TypeId} (he : P.underlying e = some .string) :
    ∀ n cs x, DataW.trod enc P w base sp held n e cs = some x → ∃ s : ByteArray, cs = [.string s] ∧ s.size ≤ maxLen := by
  intro n cs x h
  obtain ⟨s, h1, -, h2⟩ := DataW.trod_string he h
  exact ⟨s, h1, h2⟩

theorem open_strs {H : Type} {enc : TypeId × Value → H} {P : Program} {w : World} {base : Nat} {sp : Nat → Bool} {held : Bool} {t e : TypeId} (ht : P.underlying t = some (.slice e)) (hc : P.cellsOf e = 1) (he : P.underlying e = some .string)
    {v : Value} {d : DataW H} {ps : List MemPlace} (hv : ∃ a len cap, v = .slice a len cap) (hd : DataW.Trod enc P w base sp held t v d ps) :
    ∃ l : List ByteArray, Row w.heap.size w v l.length 1 (l.map Value.string) ∧ (∀ s ∈ l, s.size ≤ maxLen) ∧ (l.length = 0 ∨ ∃ el s, d = .slice el s ∧ el.length = l.length) := by
  obtain ⟨n, xs, hr, hok, hs⟩ := open_rows (okc := fun cs => ∃ s : ByteArray, cs = [.string s] ∧ s.size ≤ maxLen) ht hc (by omega) (el_str he) hv hd
  obtain ⟨l, hl, h1, h2⟩ := rows_strs hr hok
  refine ⟨l, h1, h2, ?_⟩
  rw [hl]; exact hs
end Go.Proofs.Ytkndcofmhfeaoaa
