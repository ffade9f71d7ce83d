/- The keys of a map, sorted, as its list says. -/
import Derived.Test.YtkndcofmhfeaoaaC
import Derived.Lib.SlKeysI
namespace Go.Proofs.Ytkndcofmhfeaoaa
open Go.RowKit Go.Maps
set_option linter.unusedVariables false
set_option linter.unusedSimpArgs false
def keysL_ (l : List (Int × Nat)) : List Int := l.map (·.1)
/-- the keys, rising -/
def risen (l : List (Int × Nat)) : List Int := (keysL_ l).mergeSort (fun x y => decide (x ≤ y))
theorem keys_perm {w : World} {bm n : Nat} {l : List (Int × Nat)} {D : DataW Unit} (ha : l.Pairwise (fun p q => p.1 ≠ q.1)) (hown : w.ownsMap Try.prog 3 ptrElem bm n D) (hat : ∀ x z, D.atKey (.int .i64 x) z = atD l x z) : (keysL_ l).Perm (intKeys D) := by
  refine CollectedI.perm (left := fun _ => false) ⟨List.pairwise_map.2 ha, fun x => ?_⟩ hown (int_keyed Try.underlying3) Try.underlying3 (fun _ => rfl)
  rw [PMap.has hat]
  unfold keysL_
  rw [List.mem_map]
  cases h : at_ l x with
  | none =>
    have := at_none.1 h
    simp
    exact fun b hb => this (x, b) hb rfl
  | some b =>
    simp
    unfold at_ at h
    rw [Option.map_eq_some_iff] at h
    obtain ⟨p, hp, -⟩ := h
    have h1 := List.find?_some hp
    have h2 := List.mem_of_find?_eq_some hp
    simp at h1
    subst h1
    exact ⟨p.2, h2⟩
theorem risen_len (l : List (Int × Nat)) : (risen l).length = l.length := by unfold risen keysL_; rw [List.length_mergeSort, List.length_map]
theorem risenTasks (bm : Nat) (l : List (Int × Nat)) (w : World) (h : PMap Try.prog 3 w bm l) (hl : l.length ≤ 4096) :
    Calls Try.prog 34 #[.func (.func 54) #[] #[.pointer (some ⟨w.heap.size, 0, none⟩)]] (w.alloc (.cells #[.map (some bm)] 53)) fun e w' => ∃ v, e = .returned v ∧
      w'.ownsRow w.heap.size 3 1 v l.length ((risen l).map (Value.int .i64)) ∧ Below w.heap.size w w' := by
  obtain ⟨ha, D, hown, hs, hat⟩ := h
  refine (sortedTasks bm _ D ptrElem w hown (by rw [hs]; unfold maxLen; omega) (by rw [hs]; omega)).mono ?_
  rintro e w' ⟨v, ss, rfl, hp, ho, hB⟩
  have hperm := hp.trans (keys_perm ha hown hat).symm
  have e1 : ss.mergeSort (fun x y => decide (x ≤ y)) = risen l := mergeSort_of_perm_i hperm
  have e2 : ss.length = l.length := by rw [hperm.length_eq]; unfold keysL_; rw [List.length_map]
  rw [e1, e2] at ho
  exact ⟨v, rfl, owns_lower ho (by simp), Below.call (Below.al (Below.refl w.heap.size w) _) hB⟩
theorem risenLocks (bm : Nat) (l : List (Int × Nat)) (w : World) (h : PMap Try.prog 3 w bm l) (hl : l.length ≤ 4096) :
    Calls Try.prog 34 #[.func (.func 50) #[] #[.pointer (some ⟨w.heap.size, 0, none⟩)]] (w.alloc (.cells #[.map (some bm)] 54)) fun e w' => ∃ v, e = .returned v ∧
      w'.ownsRow w.heap.size 3 1 v l.length ((risen l).map (Value.int .i64)) ∧ Below w.heap.size w w' := by
  obtain ⟨ha, D, hown, hs, hat⟩ := h
  refine (sortedLocks bm _ D ptrElem w hown (by rw [hs]; unfold maxLen; omega) (by rw [hs]; omega)).mono ?_
  rintro e w' ⟨v, ss, rfl, hp, ho, hB⟩
  have hperm := hp.trans (keys_perm ha hown hat).symm
  have e1 : ss.mergeSort (fun x y => decide (x ≤ y)) = risen l := mergeSort_of_perm_i hperm
  have e2 : ss.length = l.length := by rw [hperm.length_eq]; unfold keysL_; rw [List.length_map]
  rw [e1, e2] at ho
  exact ⟨v, rfl, owns_lower ho (by simp), Below.call (Below.al (Below.refl w.heap.size w) _) hB⟩
end Go.Proofs.Ytkndcofmhfeaoaa
