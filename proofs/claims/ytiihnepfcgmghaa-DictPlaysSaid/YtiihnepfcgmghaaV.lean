/- The document's dictionary: Find, Text, Rank, Put. -/
import Derived.Test.YtiihnepfcgmghaaU
namespace Go.Proofs.Ytiihnepfcgmghaa
open Go.RowKit Go.Maps
set_option linter.unusedVariables false
set_option linter.unusedSimpArgs false

/-- the document's dictionary in block R: a row of texts -/
structure RefAt (w0 : World) (G : Nat → Prop) (R : Nat) (w : World) (l : List ByteArray) : Prop where
  below : Below w0.heap.size w0 w
  cells : ∃ v, Blk w R 49 #[v] ∧ w.ownsRow w0.heap.size 9 1 v l.length (l.map Value.string) ∧ ∀ g, v.ownBlock = some g → G g
  root : G R
  sub : ∀ k, G k → w0.heap.size ≤ k ∧ k < w.heap.size
  size : l.length ≤ 4096
  short : ∀ s ∈ l, s.size ≤ 64
/-- what the document's walks read of it -/
structure RefQ (R : Nat) (w : World) (l : List ByteArray) (a : Option Addr) (c : Nat) : Prop where
  cell : w.cell? ⟨R, 0, none⟩ = some (.slice a l.length c)
  rlt : R < w.heap.size
  some_ : 0 < l.length → ∃ b off, a = some ⟨b, off, none⟩ ∧ b < w.heap.size
  text : ∀ b off, a = some ⟨b, off, none⟩ → ∀ j, j < l.length → b < w.heap.size ∧ w.cell? ⟨b, off + j, none⟩ = some (.string (l.getD j ByteArray.empty))
theorem RefAt.q {w0 w : World} {G : Nat → Prop} {R : Nat} {l : List ByteArray} (h : RefAt w0 G R w l) : ∃ a c, RefQ R w l a c := by
  obtain ⟨v, hb, ho, -⟩ := h.cells
  obtain ⟨a, c, rfl, -, -, hc⟩ := RowS.open (RowS.of_owns ho)
  refine ⟨a, c, Blk.cell hb 0, hb.lt, fun hn => ?_, fun b off e j hj => ?_⟩
  · obtain ⟨b, off, h1, h2, -⟩ := hc hn
    exact ⟨b, off, h1, h2⟩
  · obtain ⟨b2, off2, h1, h2, h3⟩ := hc (by omega)
    rw [e] at h1
    injection h1 with h1
    injection h1 with e1 e2
    subst e1 e2
    exact ⟨h2, h3 j hj⟩
theorem RefQ.step {R : Nat} {w w' : World} {l : List ByteArray} {a : Option Addr} {c : Nat} (h : RefQ R w l a c) (hB : Below w.heap.size w w') : RefQ R w' l a c :=
  ⟨(hB.cell (p := ⟨R, 0, none⟩) h.rlt).trans h.cell, Nat.lt_of_lt_of_le h.rlt hB.size, fun hn => by
    obtain ⟨b, off, h1, h2⟩ := h.some_ hn
    exact ⟨b, off, h1, Nat.lt_of_lt_of_le h2 hB.size⟩, fun b off e j hj => by
    obtain ⟨h1, h2⟩ := h.text b off e j hj
    exact ⟨Nat.lt_of_lt_of_le h1 hB.size, (hB.cell (p := ⟨b, off + j, none⟩) h1).trans h2⟩⟩
theorem findIdx_take {l : List ByteArray} {s : ByteArray} {k : Nat} (h : ∀ j, j < k → l.getD j ByteArray.empty ≠ s) (hk : k < l.length) (he : l.getD k ByteArray.empty = s) : idx l s = some k := by
  unfold idx
  rw [List.findIdx?_eq_some_iff_getElem]
  refine ⟨hk, ?_, fun j hj => ?_⟩
  · rw [List.getD_eq_getElem?_getD, List.getElem?_eq_getElem hk] at he
    simpa using he
  · have := h j hj
    rw [List.getD_eq_getElem?_getD, List.getElem?_eq_getElem (by omega)] at this
    simpa using this
theorem findIdx_no {l : List ByteArray} {s : ByteArray} (h : ∀ j, j < l.length → l.getD j ByteArray.empty ≠ s) : idx l s = none := by
  rw [idx_none]
  intro hm
  obtain ⟨j, hj, e⟩ := List.getElem_of_mem hm
  exact h j hj (by rw [List.getD_eq_getElem?_getD, List.getElem?_eq_getElem hj]; exact e)
set_option maxRecDepth 100000 in
theorem rfind27 (R : Nat) (l : List ByteArray) (s : ByteArray) (w : World) {a : Option Addr} {c : Nat} (h : RefQ R w l a c) (hl : l.length ≤ 4096) : Calls Try.prog 27 #[ptrV R, .string s] w fun e w' => e = .returned (findV l s) ∧ Below w.heap.size w w' := by
  have H := Lib.hid h
  unfold ptrV
  clear h
  go_enter Try.func27, Try.ntmps27
  go_wp2_with fail
  go_loopw [6] (fun u wr => ∃ i : Nat, i ≤ l.length ∧ u = .int .i64 i ∧ (∀ j, j < i → l.getD j ByteArray.empty ≠ s) ∧ Below w.heap.size w wr) (fun u _ => l.length - (intOf u).toNat)
  case atStart => exact ⟨0, by omega, rfl, fun j h => by omega, Below.refl _ _⟩
  case round =>
    obtain ⟨i, hi, rfl, hp, hB⟩ := hrel
    have HQ := Lib.hid (H.out.step hB)
    have c0 := HQ.out.cell
    have HP := Lib.hid (And.intro hp hB)
    clear hp hB
    by_cases h1 : i < l.length
    · have hd1 : decide ((i : Int) < l.length) = true := decide_eq_true (by omega)
      obtain ⟨b, off, rfl, -⟩ := HQ.out.some_ (by omega)
      obtain ⟨-, c1⟩ := HQ.out.text b off rfl i h1
      obtain ⟨t, ht⟩ : ∃ t, t = l.getD i ByteArray.empty := ⟨_, rfl⟩
      rw [← ht] at c1
      have HT := Lib.hid ht
      clear ht
      by_cases he : t = s
      · subst he
        go_wp2_with fail
        go_ret2
        refine ⟨?_, HP.out.2⟩
        unfold findV
        rw [findIdx_take HP.out.1 h1 HT.out.symm]
        rfl
      · have he2 : (t.toList == s.toList) = false := by
          rw [beq_eq_false_iff_ne]; exact fun e => he (toList_inj e)
        go_wp2_with fail
        go_roundw
        case rel =>
          refine ⟨i + 1, by omega, by go_num, fun j hj => ?_, HP.out.2⟩
          rcases Nat.lt_or_eq_of_le (Nat.le_of_lt_succ hj) with h | h
          · exact HP.out.1 j h
          · subst h; rw [← HT.out]; exact he
        case measure => simp [intOf]; omega
    · have hd1 : decide ((i : Int) < l.length) = false := decide_eq_false (by omega)
      obtain rfl : i = l.length := by omega
      go_wp2_with fail
      go_ret2
      refine ⟨?_, HP.out.2⟩
      unfold findV
      rw [findIdx_no HP.out.1]
      rfl
end Go.Proofs.Ytiihnepfcgmghaa
