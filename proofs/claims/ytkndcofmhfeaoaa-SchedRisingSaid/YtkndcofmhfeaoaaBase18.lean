/- Opening slices with a measure of what they hold. -/
import Derived.Test.YtkndcofmhfeaoaaBase17
namespace Go.Proofs.Ytkndcofmhfeaoaa
open Go.RowKit Go.WideShapes Go.ChangeShapes
set_option linter.unusedVariables false
set_option linter.unusedSimpArgs false

/-- a measure of readings, its bound, and which lengths it lets be -/
structure Meter {H : Type} (m : DataW H → Nat) (N : Nat) (sz : Nat → Prop) : Prop where
  zero : sz 0
  str : ∀ s : ByteArray, s.size ≤ maxLen → m (.lit (.string s.data.toList)) ≤ N → sz s.size
  len : ∀ el sp, m (.slice el sp) ≤ N → el.length ≤ maxLen → sz el.length
  el : ∀ el sp x, x ∈ el → m (.slice el sp) ≤ N → m x ≤ N
  part : ∀ ps x, x ∈ ps → m (.agg ps) ≤ N → m x ≤ N

theorem open_rowsM {H : Type} {m : DataW H → Nat} {N : Nat} {sz : Nat → Prop} (M : Meter m N sz) {enc : TypeId × Value → H} {P : Program} {w : World} {base : Nat} {sp : Nat → Bool} {held : Bool} {t e : TypeId} {c : Nat} {okc : List Value → Prop} (ht : P.underlying t = some (.slice e)) (hc : P.cellsOf e = c) (hc0 : 0 < c)
    (hel : ∀ n cs x, DataW.trod enc P w base sp held n e cs = some x → m x.1 ≤ N → okc cs) :
    ∀ n cs x, DataW.trod enc P w base sp held n t cs = some x → m x.1 ≤ N → ∃ (v : Value) (k : Nat) (xs : List Value), cs = [v] ∧ Row w.heap.size w v k c xs ∧ (∀ i, i < k → okc ((xs.drop (i * c)).take c)) ∧ sz k := by
  intro n0 cs0 x0 h hM
  rcases DataW.trod_slice ht h with ⟨h0, -⟩ | ⟨a, len, cap, elems, rest, n, _, h1, h2, hb, hl, hm, hlen, hread, -, -⟩
  · rw [h0]
    exact ⟨_, 0, [], rfl, by simpa using Row.nil w.heap.size w c, fun i hi => by omega, M.zero⟩
  · rw [h1]
    have hd : x0.1 = .slice (elems.map (·.1)) (rest.map (·.1)) := by rw [h2]
    have hlen2 : sz len := by
      have := M.len (elems.map (·.1)) (rest.map (·.1)) (hd ▸ hM) (by rw [List.length_map, hlen]; omega)
      rwa [List.length_map, hlen] at this
    by_cases hz : len = 0
    · subst hz
      exact ⟨_, 0, [], rfl, ⟨by simp, some a, cap, rfl, hl, hm, fun h => absurd h (by omega)⟩, fun i hi => by omega, M.zero⟩
    have each : ∀ i, i < len → ∃ l : List Value, l.length = c ∧ okc l ∧ ∀ r, r < c → w.cell? ((a.add (i * c)).add r) = l[r]? := by
      intro i hi
      have := hread i hi
      rw [hc, List.getElem?_eq_getElem (by omega), Option.bind_eq_some_iff] at this
      obtain ⟨cs, h3, h4⟩ := this
      obtain ⟨-, h5, h6⟩ := World.cells?_some h3
      exact ⟨cs, by simpa using h5, hel _ _ _ h4 (M.el _ _ _ (List.mem_map.2 ⟨_, List.getElem_mem (show i < elems.length by omega), rfl⟩) (hd ▸ hM)), fun r hr => h6 r hr⟩
    have hspot : a.spot = none := by
      obtain ⟨l, hl', -, hz⟩ := each 0 (by omega)
      have hz := hz 0 hc0
      rw [List.getElem?_eq_getElem (by omega)] at hz
      simp only [Nat.zero_mul, Addr.add, if_true] at hz
      unfold World.cell? at hz
      split at hz
      · split at hz
        · exact absurd hz (by simp)
        · rename_i h; simpa using h
      · exact absurd hz (by simp)
    obtain ⟨b, off, spot⟩ := a
    subst hspot
    have hadd : ∀ i r, (((⟨b, off, none⟩ : Addr).add (i * c)).add r) = ⟨b, off + (i * c + r), none⟩ := by
      intro i r; unfold Addr.add; split <;> split <;> simp_all <;> omega
    have cell : ∀ j, j < len * c → w.cell? ⟨b, off + j, none⟩ = some ((w.cell? ⟨b, off + j, none⟩).getD undef) := by
      intro j hj
      have hi : j / c < len := (Nat.div_lt_iff_lt_mul hc0).2 hj
      obtain ⟨l, hl', -, hz⟩ := each (j / c) hi
      have hz := hz (j % c) (Nat.mod_lt _ hc0)
      have e : j / c * c + j % c = j := by rw [Nat.mul_comm]; exact Nat.div_add_mod j c
      rw [hadd, e, List.getElem?_eq_getElem (by rw [hl']; exact Nat.mod_lt _ hc0)] at hz
      rw [hz]; rfl
    have hblt : b < w.heap.size := by
      have := cell 0 (Nat.mul_pos (by omega) hc0)
      unfold World.cell? at this
      split at this
      · rename_i h; exact (Array.getElem?_eq_some_iff.1 h).1
      · exact absurd this (by simp)
    refine ⟨_, len, (List.range (len * c)).map (fun j => (w.cell? ⟨b, off + j, none⟩).getD undef), rfl, ⟨by simp, some ⟨b, off, none⟩, cap, rfl, hl, hm, fun _ => ⟨b, off, rfl, hblt, fun j hj => ?_⟩⟩, fun i hi => ?_, hlen2⟩
    · rw [cell j hj]
      simp [List.getD_eq_getElem?_getD, hj]
    · obtain ⟨l, hl', ok, hz⟩ := each i hi
      have hic : i * c + c ≤ len * c := by rw [← Nat.succ_mul]; exact Nat.mul_le_mul_right _ hi
      have e : (((List.range (len * c)).map (fun j => (w.cell? ⟨b, off + j, none⟩).getD undef)).drop (i * c)).take c = l := by
        apply List.ext_getElem
        · simp; omega
        · intro r h1 h2
          have hr : r < c := by omega
          have hz := hz r hr
          rw [hadd, List.getElem?_eq_getElem h2] at hz
          simp [hz]
      rw [e]
      exact ok
end Go.Proofs.Ytkndcofmhfeaoaa
