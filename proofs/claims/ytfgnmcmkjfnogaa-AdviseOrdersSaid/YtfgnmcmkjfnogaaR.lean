/- AdviseOrders: the plain law. -/
import Derived.Test.YtfgnmcmkjfnogaaQ
namespace Go.Proofs.Ytfgnmcmkjfnogaa
open Go.RowKit
set_option linter.unusedVariables false
set_option linter.unusedSimpArgs false

/-- a view's numbers -/
def rowOf (xs : List Int) (i : Nat) : List Int := [xs.getD (i * 6) 0, xs.getD (i * 6 + 1) 0, xs.getD (i * 6 + 2) 0, xs.getD (i * 6 + 3) 0, xs.getD (i * 6 + 4) 0, xs.getD (i * 6 + 5) 0]
/-- the views that stay, of the first k -/
def stayTo (d xs : List Int) : Nat → List (List Int)
  | 0 => []
  | k + 1 => if hasZ d (vSet xs k) then stayTo d xs k else stayTo d xs k ++ [rowOf xs k]
/-- and those that are begun -/
def addTo (b : List Int) (l : List (List Int)) : Nat → List (List Int)
  | 0 => l
  | k + 1 => addTo b l k ++ [[b.getD k 0, 1, 0, 0, 0, 0]]

def sixes (L : List (List Int)) : Prop := ∀ r ∈ L, r.length = 6
theorem flat_len {L : List (List Int)} (h : sixes L) : L.flatten.length = L.length * 6 := by
  induction L with
  | nil => rfl
  | cons r L ih =>
    have h1 := h r (by simp)
    have h2 := ih (fun x hx => h x (by simp [hx]))
    simp only [List.flatten_cons, List.length_append, List.length_cons]
    omega
theorem flat_at {L : List (List Int)} (h : sixes L) : ∀ (i j : Nat), i < L.length → j < 6 → L.flatten.getD (i * 6 + j) 0 = (L.getD i []).getD j 0 := by
  induction L with
  | nil => intro i j hi; simp at hi
  | cons r L ih =>
    intro i j hi hj
    have h1 := h r (by simp)
    have h2 := ih (fun x hx => h x (by simp [hx]))
    cases i with
    | zero => simp [List.getD_eq_getElem?_getD, List.getElem?_append, h1, hj]
    | succ i =>
      have e : (i + 1) * 6 + j = r.length + (i * 6 + j) := by omega
      rw [List.flatten_cons, e]
      have := h2 i j (by simpa using hi) hj
      simp only [List.getD_eq_getElem?_getD] at this ⊢
      rw [List.getElem?_append_right (by omega)]
      simpa using this
theorem any_flat {L : List (List Int)} (h : sixes L) (p : List Int → Nat → Bool) (q : List Int → Bool) (hp : ∀ i, i < L.length → p L.flatten i = q (L.getD i [])) : anyTo (p L.flatten) L.length = L.any q := by
  cases hb : L.any q
  · refine anyTo_no (fun k hk => ?_)
    rw [hp k hk]
    have := List.any_eq_false.1 hb (L.getD k []) (by rw [List.getD_eq_getElem?_getD, List.getElem?_eq_getElem hk]; exact List.getElem_mem hk)
    simpa using this
  · obtain ⟨r, hr, hq⟩ := List.any_eq_true.1 hb
    obtain ⟨k, hk, e⟩ := List.getElem_of_mem hr
    refine anyTo_yes hk ?_
    rw [hp k hk, List.getD_eq_getElem?_getD, List.getElem?_eq_getElem hk]
    simpa [e] using hq
theorem isV_flat {L : List (List Int)} (h : sixes L) (s : Int) : anyTo (isV s L.flatten) L.length = L.any (fun r => r.getD 0 0 == s) :=
  any_flat h (isV s) _ (fun i hi => by
    have := flat_at h i 0 hi (by omega)
    simp only [isV, vSet]; rw [← this, Nat.add_zero])
theorem liveV_flat {L : List (List Int)} (h : sixes L) (s : Int) : anyTo (liveV s L.flatten) L.length = L.any (fun r => r.getD 0 0 == s && (r.getD 1 0 == 1 || r.getD 1 0 == 2)) :=
  any_flat h (liveV s) _ (fun i hi => by
    have h0 := flat_at h i 0 hi (by omega)
    have h1 := flat_at h i 1 hi (by omega)
    simp only [liveV, vSet, vState]; rw [← h0, ← h1]; rfl)

theorem stay_sixes (d xs : List Int) (k : Nat) : sixes (stayTo d xs k) := by
  induction k with
  | zero => intro r hr; simp [stayTo] at hr
  | succ k ih =>
    simp only [stayTo]
    split
    · exact ih
    · intro r hr
      rcases List.mem_append.1 hr with h | h
      · exact ih r h
      · simp at h; subst h; rfl
theorem stay_len (d xs : List Int) (k : Nat) : (stayTo d xs k).length ≤ k := by
  induction k with
  | zero => simp [stayTo]
  | succ k ih => simp only [stayTo]; split <;> (try simp) <;> omega
theorem add_sixes (b : List Int) {l : List (List Int)} (hl : sixes l) (k : Nat) : sixes (addTo b l k) := by
  induction k with
  | zero => exact hl
  | succ k ih =>
    intro r hr
    rcases List.mem_append.1 hr with h | h
    · exact ih r h
    · simp at h; subst h; rfl
theorem add_len (b : List Int) (l : List (List Int)) (k : Nat) : (addTo b l k).length = l.length + k := by
  induction k with
  | zero => rfl
  | succ k ih => simp [addTo, ih]; omega
theorem mem_stay (d xs : List Int) (k : Nat) (r : List Int) : r ∈ stayTo d xs k ↔ ∃ i, i < k ∧ hasZ d (vSet xs i) = false ∧ r = rowOf xs i := by
  induction k with
  | zero => simp [stayTo]
  | succ k ih =>
    simp only [stayTo]
    cases h : hasZ d (vSet xs k)
    · simp only [Bool.false_eq_true, if_false, List.mem_append, ih, List.mem_singleton]
      constructor
      · rintro (⟨i, hi, h1, h2⟩ | rfl)
        · exact ⟨i, by omega, h1, h2⟩
        · exact ⟨k, by omega, h, rfl⟩
      · rintro ⟨i, hi, h1, h2⟩
        by_cases e : i = k
        · subst e; exact .inr h2
        · exact .inl ⟨i, by omega, h1, h2⟩
    · simp only [if_true, ih]
      constructor
      · rintro ⟨i, hi, h1, h2⟩; exact ⟨i, by omega, h1, h2⟩
      · rintro ⟨i, hi, h1, h2⟩
        refine ⟨i, ?_, h1, h2⟩
        by_cases e : i = k
        · subst e; rw [h] at h1; exact absurd h1 (by decide)
        · omega
theorem mem_add (b : List Int) (l : List (List Int)) (k : Nat) (r : List Int) : r ∈ addTo b l k ↔ r ∈ l ∨ ∃ i, i < k ∧ r = [b.getD i 0, 1, 0, 0, 0, 0] := by
  induction k with
  | zero => simp [addTo]
  | succ k ih =>
    simp only [addTo, List.mem_append, ih, List.mem_singleton]
    constructor
    · rintro ((h | ⟨i, hi, h⟩) | rfl)
      · exact .inl h
      · exact .inr ⟨i, by omega, h⟩
      · exact .inr ⟨k, by omega, rfl⟩
    · rintro (h | ⟨i, hi, h⟩)
      · exact .inl (.inl h)
      · by_cases e : i = k
        · subst e; exact .inr h
        · exact .inl (.inr ⟨i, by omega, h⟩)
/-- what is to be begun is wanted; what is wanted and may be is begun, or there -/
theorem begin_mem (want xs : List Int) (n k : Nat) (hk : k ≤ want.length) : ∀ s ∈ beginTo want xs n k, hasZ want s = true := by
  induction k with
  | zero => simp [beginTo]
  | succ k ih =>
    intro s hs
    simp only [beginTo] at hs
    split at hs
    · rcases List.mem_append.1 hs with h | h
      · exact ih (by omega) s h
      · simp at h; subst h; exact contains_at (k := k) (by omega) rfl
    · exact ih (by omega) s hs
theorem begin_all (want xs : List Int) (n k i : Nat) (hi : i < k) (hc : coversB (want.getD i 0) 0 = true) (hv : anyTo (isV (want.getD i 0) xs) n = false) : want.getD i 0 ∈ beginTo want xs n k := by
  induction k with
  | zero => omega
  | succ k ih =>
    simp only [beginTo]
    by_cases e : i = k
    · subst e
      cases h : hasZ (beginTo want xs n i) (want.getD i 0)
      · rw [if_pos (by rw [hc, hv]; rfl)]; exact List.mem_append.2 (.inr (List.mem_singleton.2 rfl))
      · rw [if_neg (by simp)]
        simpa [hasZ] using h
    · have := ih (by omega)
      split
      · exact List.mem_append.2 (.inl this)
      · exact this
theorem leave_mem (want xs : List Int) (n k : Nat) : ∀ s ∈ leaveTo want xs n k, hasZ want s = false := by
  induction k with
  | zero => simp [leaveTo]
  | succ k ih =>
    intro s hs
    simp only [leaveTo] at hs
    split at hs
    · rename_i h
      rcases List.mem_append.1 hs with h' | h'
      · exact ih s h'
      · simp at h'; subst h'; simp at h; exact h.1
    · exact ih s hs
theorem leave_all (want xs : List Int) (n k : Nat) (s : Nat) (hs : s < k) (hw : hasZ want (s : Int) = false) (hv : anyTo (liveV (s : Int) xs) n = true) : (s : Int) ∈ leaveTo want xs n k := by
  induction k with
  | zero => omega
  | succ k ih =>
    simp only [leaveTo]
    by_cases e : s = k
    · subst e; rw [if_pos (by simp [hw, hv])]; simp
    · have := ih (by omega)
      split
      · simp [this]
      · exact this

/-- the views once both were done -/
def nowL (want xs : List Int) (n : Nat) : List (List Int) := addTo (beginTo want xs n want.length) (stayTo (leaveTo want xs n 64) xs n) (beginTo want xs n want.length).length
theorem now_sixes (want xs : List Int) (n : Nat) : sixes (nowL want xs n) := add_sixes _ (stay_sixes _ _ _) _
theorem row0 (xs : List Int) (i : Nat) : (rowOf xs i).getD 0 0 = vSet xs i := rfl
theorem row1 (xs : List Int) (i : Nat) : (rowOf xs i).getD 1 0 = vState xs i := rfl

theorem now_begin (want xs : List Int) (n k : Nat) (hk : k ≤ want.length) : beginTo want (nowL want xs n).flatten (nowL want xs n).length k = [] := by
  induction k with
  | zero => rfl
  | succ k ih =>
    simp only [beginTo]
    rw [ih (by omega), if_neg]
    intro h
    simp only [Bool.and_eq_true, Bool.not_eq_true'] at h
    obtain ⟨⟨hc, -⟩, hv⟩ := h
    rw [isV_flat (now_sixes _ _ _)] at hv
    have hv := List.any_eq_false.1 hv
    cases h1 : anyTo (isV (want.getD k 0) xs) n
    · have hm := begin_all want xs n want.length k (by omega) hc h1
      obtain ⟨i, hi, e⟩ := List.getElem_of_mem hm
      refine hv [(beginTo want xs n want.length).getD i 0, 1, 0, 0, 0, 0] ((mem_add _ _ _ _).2 (.inr ⟨i, hi, rfl⟩)) ?_
      rw [List.getD_eq_getElem?_getD (l := beginTo want xs n want.length), List.getElem?_eq_getElem hi, e]
      simp
    · simp only [anyTo, List.any_eq_true, List.mem_range] at h1
      obtain ⟨i, hi, h1⟩ := h1
      simp only [isV, beq_iff_eq] at h1
      refine hv (rowOf xs i) ((mem_add _ _ _ _).2 (.inl ((mem_stay _ _ _ _).2 ⟨i, hi, ?_, rfl⟩))) (by rw [row0]; simpa only [beq_iff_eq] using h1)
      rw [h1]
      cases h2 : hasZ (leaveTo want xs n 64) (want.getD k 0)
      · rfl
      · have := leave_mem want xs n 64 (want.getD k 0) (by simpa [hasZ] using h2)
        rw [contains_at (k := k) (by omega) rfl] at this
        exact absurd this (by decide)

theorem now_leave (want xs : List Int) (n k : Nat) (hk : k ≤ 64) : leaveTo want (nowL want xs n).flatten (nowL want xs n).length k = [] := by
  induction k with
  | zero => rfl
  | succ k ih =>
    simp only [leaveTo]
    rw [ih (by omega), if_neg]
    intro h
    simp only [Bool.and_eq_true, Bool.not_eq_true'] at h
    obtain ⟨hw, hv⟩ := h
    rw [liveV_flat (now_sixes _ _ _)] at hv
    obtain ⟨r, hr, hq⟩ := List.any_eq_true.1 hv
    simp only [Bool.and_eq_true, beq_iff_eq] at hq
    rcases (mem_add _ _ _ _).1 hr with hr | ⟨i, hi, rfl⟩
    · obtain ⟨i, hi, h1, rfl⟩ := (mem_stay _ _ _ _).1 hr
      rw [row0, row1] at hq
      have hl : anyTo (liveV (k : Int) xs) n = true := anyTo_yes hi (by simp only [liveV, Bool.and_eq_true, beq_iff_eq]; exact hq)
      have := leave_all want xs n 64 k (by omega) hw hl
      rw [hq.1] at h1
      have h2 : hasZ (leaveTo want xs n 64) (k : Int) = true := by simpa [hasZ] using this
      rw [h2] at h1
      exact absurd h1 (by decide)
    · have hm : (beginTo want xs n want.length).getD i 0 ∈ beginTo want xs n want.length := by rw [List.getD_eq_getElem?_getD, List.getElem?_eq_getElem hi]; exact List.getElem_mem hi
      have := begin_mem want xs n want.length (Nat.le_refl _) _ hm
      have e : (beginTo want xs n want.length).getD i 0 = (k : Int) := by simpa using hq.1
      rw [e, hw] at this
      exact absurd this (by decide)
end Go.Proofs.Ytfgnmcmkjfnogaa
