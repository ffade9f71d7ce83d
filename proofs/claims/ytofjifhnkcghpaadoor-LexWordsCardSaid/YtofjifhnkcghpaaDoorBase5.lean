/- Opening arguments: slices of numbers, and of structs of numbers. -/
import Derived.Test.YtofjifhnkcghpaaDoorOpen
import Derived.ChangeSlices
import Derived.SizedLaws
namespace Go.Proofs.YtofjifhnkcghpaaDoor
open Go.RowKit Go.WideShapes Go.ChangeShapes
set_option linter.unusedVariables false
set_option linter.unusedSimpArgs false

def numAt (v : Option Value) : Int := match v with | some (.int _ z) => z | _ => 0

theorem open_nums {H : Type} {enc : TypeId × Value → H} {P : Program} {w : World} {base : Nat} {sp : Nat → Bool} {held : Bool} {t e : TypeId} {c : Nat} (ht : P.underlying t = some (.slice e)) (hc : P.cellsOf e = c) (hc0 : 0 < c)
    (hel : ∀ n cs x, DataW.trod enc P w base sp held n e cs = some x → ∃ l : List Int, cs = l.map (Value.int .i64))
    {v : Value} {d : DataW H} {ps : List MemPlace} (hv : ∃ a len cap, v = .slice a len cap) (hd : DataW.Trod enc P w base sp held t v d ps) :
    ∃ (n : Nat) (xs : List Int), Row w.heap.size w v n c (xs.map (Value.int .i64)) ∧ (n = 0 ∨ ∃ el s, d = .slice el s ∧ el.length = n) := by
  obtain ⟨a0, len0, cap0, rfl⟩ := hv
  obtain ⟨fuel, h⟩ := hd
  have hcs : (Value.slice a0 len0 cap0).cells.toList = [.slice a0 len0 cap0] := rfl
  rw [hcs] at h
  rcases DataW.trod_slice ht h with ⟨h0, -⟩ | ⟨a, len, cap, elems, rest, n, _, h1, h2, hb, hl, hm, hlen, hread, -, -⟩
  · injection h0 with h0
    rw [h0]
    exact ⟨0, [], by simpa using Row.nil w.heap.size w c, .inl rfl⟩
  · injection h1 with h1
    rw [h1]
    have hd : d = .slice (elems.map (·.1)) (rest.map (·.1)) := (Prod.mk.inj h2).1
    by_cases hz : len = 0
    · subst hz
      exact ⟨0, [], ⟨by simp, some a, cap, rfl, hl, hm, fun h => absurd h (by omega)⟩, .inl rfl⟩
    have each : ∀ i r, i < len → r < c → ∃ z : Int, w.cell? ((a.add (i * c)).add r) = some (.int .i64 z) := by
      intro i r hi hr
      have := hread i hi
      rw [hc, List.getElem?_eq_getElem (by omega), Option.bind_eq_some_iff] at this
      obtain ⟨cs, h3, h4⟩ := this
      obtain ⟨-, h5, h6⟩ := World.cells?_some h3
      obtain ⟨l, rfl⟩ := hel _ _ _ h4
      rw [h6 r hr]
      have h5' : l.length = c := by simpa using h5
      have : r < l.length := by omega
      exact ⟨l[r], by simp [this]⟩
    have hspot : a.spot = none := by
      obtain ⟨z, hz⟩ := each 0 0 (by omega) hc0
      simp only [Nat.zero_mul, Addr.add, if_true] at hz
      unfold World.cell? at hz
      split at hz
      · split at hz
        · exact absurd hz (by simp)
        · rename_i h; simpa using h
      · exact absurd hz (by simp)
    obtain ⟨b, off, spot⟩ := a
    subst hspot
    have hadd : ∀ i r, (((⟨b, off, none⟩ : Addr).add (i * c)).add r) = ⟨b, off + (i * c + r), none⟩ := by
      intro i r; unfold Addr.add; split <;> split <;> simp_all <;> omega
    have cell : ∀ j, j < len * c → w.cell? ⟨b, off + j, none⟩ = some (.int .i64 (numAt (w.cell? ⟨b, off + j, none⟩))) := by
      intro j hj
      have hi : j / c < len := (Nat.div_lt_iff_lt_mul hc0).2 hj
      obtain ⟨z, hz⟩ := each (j / c) (j % c) hi (Nat.mod_lt _ hc0)
      have e : j / c * c + j % c = j := by rw [Nat.mul_comm]; exact Nat.div_add_mod j c
      rw [hadd, e] at hz
      rw [hz]; rfl
    have hblt : b < w.heap.size := by
      have := cell 0 (Nat.mul_pos (by omega) hc0)
      unfold World.cell? at this
      split at this
      · rename_i h; exact (Array.getElem?_eq_some_iff.1 h).1
      · exact absurd this (by simp)
    refine ⟨len, (List.range (len * c)).map (fun j => numAt (w.cell? ⟨b, off + j, none⟩)), ⟨by simp, some ⟨b, off, none⟩, cap, rfl, hl, hm, fun _ => ⟨b, off, rfl, hblt, fun j hj => ?_⟩⟩, .inr ⟨_, _, hd, by simpa using hlen⟩⟩
    rw [cell j hj]
    simp [List.getD_eq_getElem?_getD, hj]

theorem el_int {H : Type} {enc : TypeId × Value → H} {P : Program} {w : World} {base : Nat} {sp : Nat → Bool} {held : Bool} {e : TypeId} (he : P.underlying e = some (.int .i64)) :
    ∀ n cs x, DataW.trod enc P w base sp held n e cs = some x → ∃ l : List Int, cs = l.map (Value.int .i64) := by
  intro n cs x h
  obtain ⟨m, rfl, -, -⟩ := DataW.trod_int he h
  exact ⟨[m], rfl⟩

/-- a struct whose i-th field is an int in its i-th cell -/
theorem el_struct {H : Type} {enc : TypeId × Value → H} {P : Program} {w : World} {base : Nat} {sp : Nat → Bool} {held : Bool} {t e : TypeId} {fs : Array Field} {c : Nat} (ht : P.underlying t = some (.struct fs)) (hc : P.cellsOf t = c)
    (he : P.underlying e = some (.int .i64)) (he1 : P.cellsOf e = 1) (hf : ∀ i, i < c → ∃ f, fs[i]? = some f ∧ f.type = e ∧ f.offset = i) :
    ∀ n cs x, DataW.trod enc P w base sp held n t cs = some x → ∃ l : List Int, cs = l.map (Value.int .i64) := by
  intro n cs x h
  obtain ⟨xs, m, _, -, hl, hxl, hh⟩ := DataW.trod_struct ht h
  rw [hc] at hl
  refine ⟨cs.map (fun v => numAt (some v)), ?_⟩
  apply List.ext_getElem
  · simp
  · intro i h1 h2
    obtain ⟨f, hfi, hft, hfo⟩ := hf i (by omega)
    have := hh i f hfi
    rw [hft, he1, hfo] at this
    obtain ⟨y, hy⟩ : ∃ y, DataW.trod enc P w base sp held m e ((cs.drop i).take 1) = some y := ⟨_, this.trans (List.getElem?_eq_getElem (by rw [hxl]; exact (Array.getElem?_eq_some_iff.1 hfi).1))⟩
    obtain ⟨z, hz, -, -⟩ := DataW.trod_int he hy
    have e1 : (cs.drop i).take 1 = [cs[i]] := by rw [List.drop_eq_getElem_cons h1]; rfl
    rw [e1] at hz
    injection hz with hz
    simp [hz, numAt]
end Go.Proofs.YtofjifhnkcghpaaDoor
