/- Copy. -/
import Derived.Test.YtiihnepfcgmghaaZ
namespace Go.Proofs.Ytiihnepfcgmghaa
open Go.RowKit Go.Maps Go.Shelf
set_option linter.unusedVariables false
set_option linter.unusedSimpArgs false

set_option maxRecDepth 100000 in
theorem clone32 (B : Nat) (v : Value) (l : List ByteArray) (w : World) (hl : l.length ≤ 4096) (ho : w.ownsRow B 9 1 v l.length (l.map Value.string)) :
    Calls Try.prog 32 #[v] w fun e w' => ∃ v', e = .returned v' ∧ w'.ownsRow w.heap.size 9 1 v' l.length (l.map Value.string) ∧ Below w.heap.size w w' := by
  obtain ⟨i0, hi0, hz0, hz1, hz2⟩ := info_parts info9
  obtain ⟨a, c, rfl, -, -, hc⟩ := RowS.open (RowS.of_owns ho)
  cases a with
  | none =>
    have h0 : l.length = 0 := by
      cases hn : l.length with
      | zero => rfl
      | succ n => obtain ⟨b, off, h, -⟩ := hc (by omega); cases h
    have h := AnyE.slices_Clone_nil cloneS l.length c w
    change Calls Try.prog 32 _ _ _ at h
    refine h.mono ?_
    rintro e w' ⟨he, rfl⟩
    have hnil : l = [] := List.eq_nil_of_length_eq_zero h0
    subst hnil
    exact ⟨_, he, World.ownsRow_nil _ _ _ _, Below.refl _ _⟩
  | some ad =>
    obtain ⟨b, off, hz⟩ : ∃ b off, ad = ⟨b, off, none⟩ := by
      rcases ho.2 with ⟨h, -⟩ | ⟨g, cap, cur, hv, -⟩
      · cases h
      · injection hv with h1
        injection h1 with h1
        exact ⟨g, 0, h1⟩
    subst hz
    have h := AnyE.slices_Clone cloneS i0 (.string ⟨#[]⟩) 1 16 hi0 hz0 hz1 hz2 rfl (by decide) (fun w => Try.sizeOf9 w) b off l.length c (l.map Value.string) w (by simp) (by unfold maxLen; omega) (by omega) (fun j u hu => by
      have hj : j < l.length := by have := (List.getElem?_eq_some_iff.1 hu).1; simpa using this
      obtain ⟨b2, off2, h1, -, h3⟩ := hc (by omega)
      injection h1 with h1
      injection h1 with e1 e2
      subst e1 e2
      rw [List.getElem?_map, List.getElem?_eq_getElem hj] at hu
      have h4 := h3 j hj
      rw [List.getD_eq_getElem?_getD, List.getElem?_eq_getElem hj] at h4
      exact h4.trans hu) (fun u hu => by rw [List.mem_map] at hu; obtain ⟨x, -, rfl⟩ := hu; rfl)
    change Calls Try.prog 32 _ _ _ at h
    refine h.mono ?_
    rintro e w' ⟨v', he, hown, -, hB⟩
    exact ⟨v', he, hown, hB⟩
/-- a map that is a dictionary's -/
def MapQ (F : Nat → Prop) (w : World) (vm : Value) (l : List ByteArray) : Prop :=
  (vm = .map none ∧ l = []) ∨ ∃ bm, vm = .map (some bm) ∧ SMap Try.prog 9 (plainElem (H := Unit) Try.prog 3) w bm (nums 0 l) ∧ F bm
theorem clone33 (F : Nat → Prop) (vm : Value) (l : List ByteArray) (w : World) (hm : MapQ F w vm l) :
    Calls Try.prog 33 #[vm] w fun e w' => ∃ v', e = .returned v' ∧ MapQ (fun k => w.heap.size ≤ k) w' v' l ∧ Below w.heap.size w w' := by
  rcases hm with ⟨rfl, rfl⟩ | ⟨bm, rfl, ⟨ha, D, hown, hs, hat⟩, -⟩
  · have h := AnyW.maps_Clone_nil cloneM w
    change Calls Try.prog 33 _ _ _ at h
    refine h.mono ?_
    rintro e w' ⟨he, rfl⟩
    exact ⟨_, he, .inl ⟨rfl, rfl⟩, Below.refl _ _⟩
  · have h := AnyW.maps_Clone_owns cloneM 9 (plainElem (H := Unit) Try.prog 3) bm _ D w hown
    change Calls Try.prog 33 _ _ _ at h
    refine h.mono ?_
    rintro e w' ⟨he, h1, -, hB⟩
    exact ⟨_, he, .inr ⟨_, rfl, ⟨ha, D, h1, hs, hat⟩, Nat.le_refl _⟩, hB⟩
end Go.Proofs.Ytiihnepfcgmghaa
