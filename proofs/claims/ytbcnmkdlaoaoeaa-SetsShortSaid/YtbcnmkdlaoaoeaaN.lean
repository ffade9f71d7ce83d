/- Plain law: the choices of two lists of elements. -/
import Derived.Test.YtbcnmkdlaoaoeaaJ
namespace Go.Proofs.Ytbcnmkdlaoaoeaa
open Go.RowKit
set_option linter.unusedVariables false
set_option linter.unusedSimpArgs false

def crossL (l m : List Nat) : List Nat := l.flatMap fun x => m.map (x ||| ·)
theorem prodL_or (ls : List (List Nat)) (s : Nat) : prodL ls s = (prodL ls 0).map (s ||| ·) := by
  induction ls generalizing s with
  | nil => simp [prodL]
  | cons l r ih =>
    simp only [prodL]
    rw [List.map_flatMap]
    congr 1
    funext x
    rw [ih (s ||| x), ih (0 ||| x), List.map_map]
    congr 1
    funext y
    simp [Nat.or_assoc]
theorem prodL_append (A B : List (List Nat)) (s : Nat) : prodL (A ++ B) s = (prodL A s).flatMap fun x => prodL B x := by
  induction A generalizing s with
  | nil => simp [prodL]
  | cons l r ih =>
    simp only [List.cons_append, prodL]
    rw [List.flatMap_assoc]
    congr 1
    funext x
    exact ih _
theorem choices_append (dims : List ByteArray) (a b : List Grp) : choices dims (a ++ b) = crossL (choices dims a) (choices dims b) := by
  unfold choices crossL
  rw [List.map_append, prodL_append]
  congr 1
  funext x
  exact prodL_or _ x
theorem crossL_len (l m : List Nat) : (crossL l m).length = l.length * m.length := by
  unfold crossL
  induction l with
  | nil => simp
  | cons x r ih => simp only [List.flatMap_cons, List.length_append, List.length_map, List.length_cons, ih]; rw [Nat.add_mul]; omega
theorem crossL_at (l m : List Nat) (i k : Nat) (hi : i < l.length) (hk : k < m.length) : (crossL l m).getD (i * m.length + k) 0 = l.getD i 0 ||| m.getD k 0 := by
  induction l generalizing i with
  | nil => simp at hi
  | cons x r ih =>
    have e : crossL (x :: r) m = m.map (x ||| ·) ++ crossL r m := by simp [crossL]
    rw [e]
    simp only [List.getD_eq_getElem?_getD]
    cases i with
    | zero =>
      rw [List.getElem?_append_left (by simp; omega)]
      simp [hk]
    | succ i =>
      have hi' : i < r.length := by simpa using hi
      rw [List.getElem?_append_right (by simp [Nat.add_mul]; omega)]
      have := ih i hi'
      simp only [List.getD_eq_getElem?_getD] at this
      rw [List.length_map, show (i + 1) * m.length + k - m.length = i * m.length + k by rw [Nat.add_mul]; omega, this]
      simp
theorem prodL_lt (ls : List (List Nat)) (s : Nat) (hs : s < 64) (h : ∀ l ∈ ls, ∀ x ∈ l, x < 64) : ∀ y ∈ prodL ls s, y < 64 := by
  induction ls generalizing s with
  | nil => intro y hy; simp [prodL] at hy; omega
  | cons l r ih =>
    intro y hy
    simp only [prodL, List.mem_flatMap] at hy
    obtain ⟨x, hx, hy⟩ := hy
    exact ih (s ||| x) (or_lt hs (h l (by simp) x hx)) (fun l' hl' => h l' (by simp [hl'])) y hy
theorem choices_lt (dims : List ByteArray) (gs : List Grp) : ∀ y ∈ choices dims gs, y < 64 :=
  prodL_lt _ 0 (by omega) (by intro l hl; rw [List.mem_map] at hl; obtain ⟨g, _, rfl⟩ := hl; exact ownL_lt dims g)
theorem prodL_empty (ls : List (List Nat)) (s : Nat) (h : [] ∈ ls) : prodL ls s = [] := by
  induction ls generalizing s with
  | nil => simp at h
  | cons l r ih =>
    simp only [prodL]
    rcases List.mem_cons.1 h with h | h
    · subst h; rfl
    · rw [List.flatMap_eq_nil_iff]; intro x _; exact ih _ h
theorem prodL_some (ls : List (List Nat)) (s : Nat) (h : ∀ l ∈ ls, 0 < l.length) : 0 < (prodL ls s).length := by
  induction ls generalizing s with
  | nil => simp [prodL]
  | cons l r ih =>
    have h0 := h l (by simp)
    match l, h0 with
    | x :: t, _ =>
      simp only [prodL, List.flatMap_cons, List.length_append]
      have := ih (s ||| x) (fun l' hl' => h l' (by simp [hl']))
      omega
theorem choices_empty (dims : List ByteArray) (gs : List Grp) (h : (gs.any fun g => decide (ownN g = 0)) = true) : choices dims gs = [] := by
  rw [List.any_eq_true] at h
  obtain ⟨g, hg, h0⟩ := h
  apply prodL_empty
  rw [List.mem_map]
  refine ⟨g, hg, List.eq_nil_of_length_eq_zero ?_⟩
  rw [ownL_len]; simpa using h0
theorem choices_some (dims : List ByteArray) (gs : List Grp) (h : (gs.any fun g => decide (ownN g = 0)) = false) : 0 < (choices dims gs).length := by
  apply prodL_some
  intro l hl
  rw [List.mem_map] at hl
  obtain ⟨g, hg, rfl⟩ := hl
  rw [ownL_len]
  have := List.any_eq_false.1 h g hg
  simp at this
  omega
/-- what Expand tells, if the dimensions are six at most, in one row -/
theorem expandL_eq (dims : List ByteArray) (gs : List Grp) (h : dims.length ≤ 6) : expandL dims gs = if (gs.any fun g => !(soundB g)) = true then ([], 1) else if gs.any (badB dims) = true then ([], 42) else if 64 < (choices dims gs).length then ([], 46) else (choices dims gs, 0) := by
  unfold expandL
  have hn : ¬ 6 < dims.length := by omega
  cases h1 : gs.any fun g => !(soundB g)
  · cases h2 : gs.any (badB dims)
    · cases h3 : gs.any fun g => decide (ownN g = 0)
      · simp [hn]
      · simp [hn, choices_empty dims gs h3]
    · simp [hn]
  · simp
theorem expand_len (dims : List ByteArray) (gs : List Grp) (h : dims.length ≤ 6) : (expandL dims gs).1.length ≤ 64 := by
  rw [expandL_eq dims gs h]
  split
  · simp
  · split
    · simp
    · split
      · simp
      · simp; omega

/-- the law of two lists of elements -/
theorem cross_bad (dims : List ByteArray) (a b : List Grp) (h : dims.length ≤ 6) (he : (expandL dims a).2 ≠ 0 ∨ (expandL dims b).2 ≠ 0) : (expandL dims (a ++ b)).2 ≠ 0 ∨ (expandL dims (a ++ b)).1 = [] := by
  simp only [expandL_eq dims _ h] at he ⊢
  rw [List.any_append, List.any_append, choices_append, crossL_len]
  cases h1 : a.any fun g => !(soundB g)
  · cases h2 : b.any fun g => !(soundB g)
    · cases h3 : a.any (badB dims)
      · cases h4 : b.any (badB dims)
        · simp only [h1, h2, h3, h4, Bool.or_self, Bool.false_eq_true, if_false] at he ⊢
          by_cases h5 : 64 < (choices dims a).length * (choices dims b).length
          · simp [h5]
          · rw [if_neg h5]
            right
            show crossL _ _ = []
            apply List.eq_nil_of_length_eq_zero
            rw [crossL_len]
            by_cases h6 : 64 < (choices dims a).length
            · by_cases h7 : (choices dims b).length = 0
              · rw [h7]; omega
              · exfalso; exact h5 (Nat.lt_of_lt_of_le h6 (Nat.le_mul_of_pos_right _ (by omega)))
            · by_cases h7 : 64 < (choices dims b).length
              · by_cases h8 : (choices dims a).length = 0
                · rw [h8]; omega
                · exfalso; exact h5 (Nat.lt_of_lt_of_le h7 (Nat.le_mul_of_pos_left _ (by omega)))
              · simp [h6, h7] at he
        · simp
      · simp
    · simp
  · simp
theorem cross_good (dims : List ByteArray) (a b : List Grp) (h : dims.length ≤ 6) (ha : (expandL dims a).2 = 0) (hb : (expandL dims b).2 = 0) :
    expandL dims (a ++ b) = if 64 < (expandL dims a).1.length * (expandL dims b).1.length then ([], 46) else (crossL (expandL dims a).1 (expandL dims b).1, 0) := by
  simp only [expandL_eq dims _ h] at ha hb ⊢
  rw [List.any_append, List.any_append, choices_append, crossL_len]
  cases h1 : a.any fun g => !(soundB g)
  · cases h2 : b.any fun g => !(soundB g)
    · cases h3 : a.any (badB dims)
      · cases h4 : b.any (badB dims)
        · simp only [h1, h2, h3, h4, Bool.or_self, Bool.false_eq_true, if_false] at ha hb ⊢
          by_cases h6 : 64 < (choices dims a).length
          · simp [h6] at ha
          · by_cases h7 : 64 < (choices dims b).length
            · simp [h7] at hb
            · simp [h6, h7]
        · simp [h2, h4] at hb
      · simp [h1, h3] at ha
    · simp [h2] at hb
  · simp [h1] at ha
theorem expand_lt (dims : List ByteArray) (gs : List Grp) (h : dims.length ≤ 6) (k : Nat) : (expandL dims gs).1.getD k 0 < 64 := by
  have h1 : ∀ y ∈ (expandL dims gs).1, y < 64 := by
    rw [expandL_eq dims gs h]
    split
    · simp
    · split
      · simp
      · split
        · simp
        · exact choices_lt dims gs
  rw [List.getD_eq_getElem?_getD]
  cases hk : (expandL dims gs).1[k]? with
  | none => simp
  | some y => exact h1 y (List.mem_of_getElem? hk)
end Go.Proofs.Ytbcnmkdlaoaoeaa
