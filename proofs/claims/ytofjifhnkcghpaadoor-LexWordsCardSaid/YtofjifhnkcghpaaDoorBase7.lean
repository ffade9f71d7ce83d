/- Opening a slice whose elements have cells of any shape; and slices of bools. -/
import Derived.Test.YtofjifhnkcghpaaDoorBase5
namespace Go.Proofs.YtofjifhnkcghpaaDoor
open Go.RowKit Go.WideShapes Go.ChangeShapes
set_option linter.unusedVariables false
set_option linter.unusedSimpArgs false

theorem open_rows {H : Type} {enc : TypeId × Value → H} {P : Program} {w : World} {base : Nat} {sp : Nat → Bool} {held : Bool} {t e : TypeId} {c : Nat} {okc : List Value → Prop} (ht : P.underlying t = some (.slice e)) (hc : P.cellsOf e = c) (hc0 : 0 < c)
    (hel : ∀ n cs x, DataW.trod enc P w base sp held n e cs = some x → okc cs)
    {v : Value} {d : DataW H} {ps : List MemPlace} (hv : ∃ a len cap, v = .slice a len cap) (hd : DataW.Trod enc P w base sp held t v d ps) :
    ∃ (n : Nat) (xs : List Value), Row w.heap.size w v n c xs ∧ (∀ i, i < n → okc ((xs.drop (i * c)).take c)) ∧ (n = 0 ∨ ∃ el s, d = .slice el s ∧ el.length = n) := by
  obtain ⟨a0, len0, cap0, rfl⟩ := hv
  obtain ⟨fuel, h⟩ := hd
  have hcs : (Value.slice a0 len0 cap0).cells.toList = [.slice a0 len0 cap0] := rfl
  rw [hcs] at h
  rcases DataW.trod_slice ht h with ⟨h0, -⟩ | ⟨a, len, cap, elems, rest, n, _, h1, h2, hb, hl, hm, hlen, hread, -, -⟩
  · injection h0 with h0
    rw [h0]
    exact ⟨0, [], by simpa using Row.nil w.heap.size w c, fun i hi => by omega, .inl rfl⟩
  · injection h1 with h1
    rw [h1]
    have hd : d = .slice (elems.map (·.1)) (rest.map (·.1)) := (Prod.mk.inj h2).1
    by_cases hz : len = 0
    · subst hz
      exact ⟨0, [], ⟨by simp, some a, cap, rfl, hl, hm, fun h => absurd h (by omega)⟩, fun i hi => by omega, .inl rfl⟩
    have each : ∀ i, i < len → ∃ l : List Value, l.length = c ∧ okc l ∧ ∀ r, r < c → w.cell? ((a.add (i * c)).add r) = l[r]? := by
      intro i hi
      have := hread i hi
      rw [hc, List.getElem?_eq_getElem (by omega), Option.bind_eq_some_iff] at this
      obtain ⟨cs, h3, h4⟩ := this
      obtain ⟨-, h5, h6⟩ := World.cells?_some h3
      exact ⟨cs, by simpa using h5, hel _ _ _ h4, fun r hr => h6 r hr⟩
    have hspot : a.spot = none := by
      obtain ⟨l, hl', -, hz⟩ := each 0 (by omega)
      have hz := hz 0 hc0
      rw [List.getElem?_eq_getElem (by omega)] at hz
      simp only [Nat.zero_mul, Addr.add, if_true] at hz
      unfold World.cell? at hz
      split at hz
      · split at hz
        · exact absurd hz (by simp)
        · rename_i h; simpa using h
      · exact absurd hz (by simp)
    obtain ⟨b, off, spot⟩ := a
    subst hspot
    have hadd : ∀ i r, (((⟨b, off, none⟩ : Addr).add (i * c)).add r) = ⟨b, off + (i * c + r), none⟩ := by
      intro i r; unfold Addr.add; split <;> split <;> simp_all <;> omega
    have cell : ∀ j, j < len * c → w.cell? ⟨b, off + j, none⟩ = some ((w.cell? ⟨b, off + j, none⟩).getD undef) := by
      intro j hj
      have hi : j / c < len := (Nat.div_lt_iff_lt_mul hc0).2 hj
      obtain ⟨l, hl', -, hz⟩ := each (j / c) hi
      have hz := hz (j % c) (Nat.mod_lt _ hc0)
      have e : j / c * c + j % c = j := by rw [Nat.mul_comm]; exact Nat.div_add_mod j c
      rw [hadd, e, List.getElem?_eq_getElem (by rw [hl']; exact Nat.mod_lt _ hc0)] at hz
      rw [hz]; rfl
    have hblt : b < w.heap.size := by
      have := cell 0 (Nat.mul_pos (by omega) hc0)
      unfold World.cell? at this
      split at this
      · rename_i h; exact (Array.getElem?_eq_some_iff.1 h).1
      · exact absurd this (by simp)
    refine ⟨len, (List.range (len * c)).map (fun j => (w.cell? ⟨b, off + j, none⟩).getD undef), ⟨by simp, some ⟨b, off, none⟩, cap, rfl, hl, hm, fun _ => ⟨b, off, rfl, hblt, fun j hj => ?_⟩⟩, fun i hi => ?_, .inr ⟨_, _, hd, by simpa using hlen⟩⟩
    · rw [cell j hj]
      simp [List.getD_eq_getElem?_getD, hj]
    · obtain ⟨l, hl', ok, hz⟩ := each i hi
      have hic : i * c + c ≤ len * c := by rw [← Nat.succ_mul]; exact Nat.mul_le_mul_right _ hi
      have e : (((List.range (len * c)).map (fun j => (w.cell? ⟨b, off + j, none⟩).getD undef)).drop (i * c)).take c = l := by
        apply List.ext_getElem
        · simp; omega
        · intro r h1 h2
          have hr : r < c := by omega
          have hz := hz r hr
          rw [hadd, List.getElem?_eq_getElem h2] at hz
          simp [hz]
      rw [e]
      exact ok

theorem open_bools {H : Type} {enc : TypeId × Value → H} {P : Program} {w : World} {base : Nat} {sp : Nat → Bool} {held : Bool} {t e : TypeId} (ht : P.underlying t = some (.slice e)) (hc : P.cellsOf e = 1) (he : P.underlying e = some .bool)
    {v : Value} {d : DataW H} {ps : List MemPlace} (hv : ∃ a len cap, v = .slice a len cap) (hd : DataW.Trod enc P w base sp held t v d ps) :
    ∃ bs : List Bool, Row w.heap.size w v bs.length 1 (bs.map Value.bool) ∧ (bs.length = 0 ∨ ∃ el s, d = .slice el s ∧ el.length = bs.length) := by
  obtain ⟨n, xs, hr, hok, hs⟩ := open_rows (okc := fun cs => ∃ b : Bool, cs = [.bool b]) ht hc (by omega) (fun n cs x h => by obtain ⟨b, rfl, -⟩ := DataW.trod_bool he h; exact ⟨b, rfl⟩) hv hd
  have hl : xs.length = n := by have := hr.len; omega
  have e : xs = (xs.map fun v => match v with | .bool b => b | _ => false).map Value.bool := by
    apply List.ext_getElem
    · simp
    · intro i h1 h2
      obtain ⟨b, hb⟩ := hok i (by omega)
      rw [Nat.mul_one, List.drop_eq_getElem_cons h1] at hb
      injection hb with hb _
      simp [hb]
  refine ⟨xs.map fun v => match v with | .bool b => b | _ => false, ?_, ?_⟩
  · rw [← e, List.length_map, hl]; exact hr
  · rw [List.length_map, hl]; exact hs
end Go.Proofs.YtofjifhnkcghpaaDoor
