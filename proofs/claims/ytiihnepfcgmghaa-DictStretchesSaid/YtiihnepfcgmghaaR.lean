/- An array of three texts as an argument; DictStretches' law. -/
import Derived.Test.YtiihnepfcgmghaaQ
import Derived.Test.YtiihnepfcgmghaaBase14
import Derived.Laws.IdiomArrays
namespace Go.Proofs.Ytiihnepfcgmghaa
open Go.RowKit Go.Maps Go.WideShapes Go.ChangeShapes
set_option linter.unusedVariables false
set_option linter.unusedSimpArgs false
theorem open_arr3 {H : Type} {enc : TypeId × Value → H} {P : Program} {w : World} {r : Reach} {base base' : Nat} {sp : Nat → Bool} {held : Bool} {t e : TypeId} (ht : P.underlying t = some (.array 3 e)) (hc : P.cellsOf e = 1) (hc3 : P.cellsOf t = 3) (he : P.underlying e = some .string)
    {v : Value} {d : DataW H} {ps : List MemPlace} (hv : Value.okWide P w r base' t v) (hd : DataW.Trod enc P w base sp held t v d ps) :
    ∃ a b c : ByteArray, v = .agg #[.string a, .string b, .string c] := by
  have h' : ∃ cs, v = .agg cs ∧ cs.size = P.cellsOf t := by
    unfold Value.okWide at hv
    rw [ht] at hv
    obtain ⟨cs, h1, h2, -⟩ := hv
    exact ⟨cs, h1, h2⟩
  obtain ⟨cs, rfl, hz⟩ := h'
  rw [hc3] at hz
  obtain ⟨l⟩ := cs
  obtain ⟨c0, c1, c2, rfl⟩ : ∃ c0 c1 c2, l = [c0, c1, c2] := by
    have hz2 : l.length = 3 := hz
    match l, hz2 with
    | [c0, c1, c2], _ => exact ⟨c0, c1, c2, rfl⟩
  obtain ⟨m, hm⟩ := hd
  obtain ⟨y0, y1, y2, n, -, h0, h1, h2⟩ := trod_array3 ht hc hm
  obtain ⟨a, ea, -⟩ := el_str he _ _ _ h0
  obtain ⟨b, eb, -⟩ := el_str he _ _ _ h1
  obtain ⟨c, ec, -⟩ := el_str he _ _ _ h2
  injection ea with ea
  injection eb with eb
  injection ec with ec
  subst ea eb ec
  exact ⟨a, b, c, rfl⟩
theorem stretchesLaw (v : Value) (a b c : ByteArray) (w : World) (T : List ByteArray) (hr : Row w.heap.size w v T.length 1 (T.map Value.string)) (hT : ∀ s ∈ T, s.size ≤ maxLen) (hlen : T.length * 16 ≤ 140737488351232) :
    Calls Try.prog 4 #[v, .agg #[.string a, .string b, .string c]] w fun e w' => e = .returned (.bool true) ∧ Below w.heap.size w w' := stretches4 v T a b c hT w hr hlen
end Go.Proofs.Ytiihnepfcgmghaa
