/- Opening slices whose texts and slices fit into a machine. -/
import Derived.Test.YtkndcofmhfeaoaaBase17
import Derived.SizedLaws
namespace Go.Proofs.Ytkndcofmhfeaoaa
open Go.RowKit Go.WideShapes Go.ChangeShapes
set_option linter.unusedVariables false
set_option linter.unusedSimpArgs false

/-- each text and each slice of a reading fits into a machine -/
def Fit {H : Type} (P : Program) (t : TypeId) (d : DataW H) : Prop := ∀ n ∈ d.weights P t, n ≤ reachBytes
theorem Fit.str {H : Type} {P : Program} {t : TypeId} {l : List UInt8} (h : Fit P t (.lit (.string l) : DataW H)) : l.length ≤ reachBytes := h _ (by simp [DataW.weights])
theorem Fit.len {H : Type} {P : Program} {t e : TypeId} {el sp : List (DataW H)} (ht : P.underlying t = some (.slice e)) (h : Fit P t (.slice el sp)) : el.length * P.bytesOf e ≤ reachBytes := by
  have := h ((el.length + sp.length) * P.bytesOf e) (by simp [DataW.weights, ht])
  exact Nat.le_trans (Nat.mul_le_mul_right _ (Nat.le_add_right _ _)) this
theorem weightsAll_mem {H : Type} {P : Program} {e : TypeId} {x : DataW H} {n : Nat} (hn : n ∈ x.weights P e) : ∀ {l : List (DataW H)}, x ∈ l → n ∈ DataW.weightsAll P e l
  | y :: l, h => by
    simp only [DataW.weightsAll, List.mem_append]
    cases List.mem_cons.1 h with
    | inl h => subst h; exact .inl hn
    | inr h => exact .inr (weightsAll_mem hn h)
theorem Fit.el {H : Type} {P : Program} {t e : TypeId} {el sp : List (DataW H)} (ht : P.underlying t = some (.slice e)) (h : Fit P t (.slice el sp)) {x : DataW H} (hx : x ∈ el) : Fit P e x := fun n hn =>
  h n (by simp only [DataW.weights, ht, List.mem_cons, List.mem_append]; exact .inr (.inl (weightsAll_mem hn hx)))
theorem Fit.part {H : Type} {P : Program} {t : TypeId} {fs : Array Field} {ps : List (DataW H)} (ht : P.underlying t = some (.struct fs)) (h : Fit P t (.agg ps)) {i : Nat} {f : Field} {x : DataW H} (hf : fs[i]? = some f) (hx : ps[i]? = some x) : Fit P f.type x := fun n hn =>
  h n (by
    simp only [DataW.weights, ht]
    exact DataW.weights_mem_each (j := i) (by rw [List.getElem?_map, Array.getElem?_toList, hf]; rfl) hx n hn)
theorem Fit.arg {H : Type} {P : Program} {ts : List TypeId} {ds : List (DataW H)} (h : (DataW.weightsEach P ts ds).all (· ≤ reachBytes) = true) {j : Nat} {t : TypeId} {d : DataW H} (ht : ts[j]? = some t) (hd : ds[j]? = some d) : Fit P t d := fun n hn => by
  have := List.all_eq_true.1 h n (DataW.weights_mem_each ht hd n hn)
  simpa using this
theorem open_rowsT {H : Type} {enc : TypeId × Value → H} {P : Program} {w : World} {base : Nat} {sp : Nat → Bool} {held : Bool} {t e : TypeId} {c : Nat} {okc : List Value → Prop} (ht : P.underlying t = some (.slice e)) (hc : P.cellsOf e = c) (hc0 : 0 < c)
    (hel : ∀ n cs x, DataW.trod enc P w base sp held n e cs = some x → Fit P e x.1 → okc cs) :
    ∀ n cs x, DataW.trod enc P w base sp held n t cs = some x → Fit P t x.1 → ∃ (v : Value) (k : Nat) (xs : List Value), cs = [v] ∧ Row w.heap.size w v k c xs ∧ (∀ i, i < k → okc ((xs.drop (i * c)).take c)) ∧ k * P.bytesOf e ≤ reachBytes := by
  intro n0 cs0 x0 h hM
  rcases DataW.trod_slice ht h with ⟨h0, -⟩ | ⟨a, len, cap, elems, rest, n, _, h1, h2, hb, hl, hm, hlen, hread, -, -⟩
  · rw [h0]
    exact ⟨_, 0, [], rfl, by simpa using Row.nil w.heap.size w c, fun i hi => by omega, by simp⟩
  · rw [h1]
    have hd : x0.1 = .slice (elems.map (·.1)) (rest.map (·.1)) := by rw [h2]
    have hlen2 : len * P.bytesOf e ≤ reachBytes := by
      have := Fit.len ht (hd ▸ hM)
      rwa [List.length_map, hlen] at this
    by_cases hz : len = 0
    · subst hz
      exact ⟨_, 0, [], rfl, ⟨by simp, some a, cap, rfl, hl, hm, fun h => absurd h (by omega)⟩, fun i hi => by omega, by simp⟩
    have each : ∀ i, i < len → ∃ l : List Value, l.length = c ∧ okc l ∧ ∀ r, r < c → w.cell? ((a.add (i * c)).add r) = l[r]? := by
      intro i hi
      have := hread i hi
      rw [hc, List.getElem?_eq_getElem (by omega), Option.bind_eq_some_iff] at this
      obtain ⟨cs, h3, h4⟩ := this
      obtain ⟨-, h5, h6⟩ := World.cells?_some h3
      exact ⟨cs, by simpa using h5, hel _ _ _ h4 (Fit.el ht (hd ▸ hM) (List.mem_map.2 ⟨_, List.getElem_mem (show i < elems.length by omega), rfl⟩)), fun r hr => h6 r hr⟩
    have hspot : a.spot = none := by
      obtain ⟨l, hl', -, hz⟩ := each 0 (by omega)
      have hz := hz 0 hc0
      rw [List.getElem?_eq_getElem (by omega)] at hz
      simp only [Nat.zero_mul, Addr.add, if_true] at hz
      unfold World.cell? at hz
      split at hz
      · split at hz
        · exact absurd hz (by simp)
        · rename_i h; simpa using h
      · exact absurd hz (by simp)
    obtain ⟨b, off, spot⟩ := a
    subst hspot
    have hadd : ∀ i r, (((⟨b, off, none⟩ : Addr).add (i * c)).add r) = ⟨b, off + (i * c + r), none⟩ := by
      intro i r; unfold Addr.add; split <;> split <;> simp_all <;> omega
    have cell : ∀ j, j < len * c → w.cell? ⟨b, off + j, none⟩ = some ((w.cell? ⟨b, off + j, none⟩).getD undef) := by
      intro j hj
      have hi : j / c < len := (Nat.div_lt_iff_lt_mul hc0).2 hj
      obtain ⟨l, hl', -, hz⟩ := each (j / c) hi
      have hz := hz (j % c) (Nat.mod_lt _ hc0)
      have e : j / c * c + j % c = j := by rw [Nat.mul_comm]; exact Nat.div_add_mod j c
      rw [hadd, e, List.getElem?_eq_getElem (by rw [hl']; exact Nat.mod_lt _ hc0)] at hz
      rw [hz]; rfl
    have hblt : b < w.heap.size := by
      have := cell 0 (Nat.mul_pos (by omega) hc0)
      unfold World.cell? at this
      split at this
      · rename_i h; exact (Array.getElem?_eq_some_iff.1 h).1
      · exact absurd this (by simp)
    refine ⟨_, len, (List.range (len * c)).map (fun j => (w.cell? ⟨b, off + j, none⟩).getD undef), rfl, ⟨by simp, some ⟨b, off, none⟩, cap, rfl, hl, hm, fun _ => ⟨b, off, rfl, hblt, fun j hj => ?_⟩⟩, fun i hi => ?_, hlen2⟩
    · rw [cell j hj]
      simp [List.getD_eq_getElem?_getD, hj]
    · obtain ⟨l, hl', ok, hz⟩ := each i hi
      have hic : i * c + c ≤ len * c := by rw [← Nat.succ_mul]; exact Nat.mul_le_mul_right _ hi
      have e : (((List.range (len * c)).map (fun j => (w.cell? ⟨b, off + j, none⟩).getD undef)).drop (i * c)).take c = l := by
        apply List.ext_getElem
        · simp; omega
        · intro r h1 h2
          have hr : r < c := by omega
          have hz := hz r hr
          rw [hadd, List.getElem?_eq_getElem h2] at hz
          simp [hz]
      rw [e]
      exact ok
end Go.Proofs.Ytkndcofmhfeaoaa
