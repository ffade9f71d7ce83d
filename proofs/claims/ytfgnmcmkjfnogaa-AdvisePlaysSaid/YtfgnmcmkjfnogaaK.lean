/- What is chosen, step by step: each choice gains, fits, and is the best of those that may be. -/
import Derived.Test.YtfgnmcmkjfnogaaJ
namespace Go.Proofs.Ytfgnmcmkjfnogaa
open Go.RowKit
set_option linter.unusedVariables false
set_option linter.unusedSimpArgs false

/-- what is chosen ahead stays ahead -/
theorem chooseGo_take (W R Y : List Int) (n : Nat) : ∀ out b C, (chooseGo W R Y n out b C).take out.length = out := by
  induction n with
  | zero => intro out b C; simp [chooseGo]
  | succ n ih =>
    intro out b C
    simp only [chooseGo]
    split
    · simp
    · have := ih (out ++ [(pickTo W R Y C out b 64).1]) (b - spaceZ Y (pickTo W R Y C out b 64).1.toNat) (costNext R C (pickTo W R Y C out b 64).1.toNat)
      have h2 := congrArg (List.take out.length) this
      simpa [List.take_take] using h2

/-- no other one is better than the best -/
theorem pick_best (W R Y C out : List Int) (budget : Int) (k : Nat) (hk : k ≤ 64) : ∀ j, j < k → skipB Y out budget j = false → 0 < benTo j W C (R.getD j 0) 64 →
    0 ≤ (pickTo W R Y C out budget k).1 ∧ benTo j W C (R.getD j 0) 64 * (spaceZ Y (pickTo W R Y C out budget k).1.toNat + 1) ≤ (pickTo W R Y C out budget k).2 * (spaceZ Y j + 1) := by
  induction k with
  | zero => intro j h; omega
  | succ k ih =>
    intro j hj hs hg
    have ok := pick_ok W R Y C out budget k
    simp only [pickTo, pickOne]
    by_cases hjk : j = k
    · subst hjk
      rw [if_neg (by rw [hs]; simp)]
      by_cases hb : betterB Y (pickTo W R Y C out budget j).1 (pickTo W R Y C out budget j).2 j (benTo j W C (R.getD j 0) 64) = true
      · rw [if_pos (by simp only [Bool.and_eq_true, decide_eq_true_eq]; exact ⟨hg, hb⟩)]
        refine ⟨by simp, ?_⟩
        simp
      · rw [if_neg (by simp only [Bool.and_eq_true, decide_eq_true_eq]; exact fun h => hb h.2)]
        simp only [betterB, Bool.or_eq_true, decide_eq_true_eq, not_or] at hb
        exact ⟨by omega, by omega⟩
    · have h1 := ih (by omega) j (by omega) hs hg
      split
      · exact h1
      · split
        · rename_i hn hb
          simp only [Bool.and_eq_true, decide_eq_true_eq, betterB, Bool.or_eq_true] at hb
          refine ⟨by simp, ?_⟩
          have hb2 : (pickTo W R Y C out budget k).2 * (spaceZ Y k + 1) < benTo k W C (R.getD k 0) 64 * (spaceZ Y (pickTo W R Y C out budget k).1.toNat + 1) := by
            rcases hb.2 with h | h
            · omega
            · exact h
          simp only [Int.toNat_natCast]
          have s1 := spaceZ_bd Y k
          have s2 := spaceZ_bd Y j
          have s3 := spaceZ_bd Y (pickTo W R Y C out budget k).1.toNat
          generalize spaceZ Y k = S at *
          generalize spaceZ Y j = J at *
          generalize spaceZ Y (pickTo W R Y C out budget k).1.toNat = B at *
          generalize (pickTo W R Y C out budget k).2 = m at *
          generalize benTo k W C (R.getD k 0) 64 = b at *
          generalize benTo j W C (R.getD j 0) 64 = a at *
          have e1 : a * (B + 1) * (S + 1) ≤ m * (J + 1) * (S + 1) := Int.mul_le_mul_of_nonneg_right h1.2 (by omega)
          have e2 : m * (S + 1) * (J + 1) ≤ b * (B + 1) * (J + 1) := Int.mul_le_mul_of_nonneg_right (Int.le_of_lt hb2) (by omega)
          have e3 : m * (J + 1) * (S + 1) = m * (S + 1) * (J + 1) := by rw [Int.mul_assoc, Int.mul_comm (J + 1), ← Int.mul_assoc]
          have e4 : a * (B + 1) * (S + 1) = a * (S + 1) * (B + 1) := by rw [Int.mul_assoc, Int.mul_comm (B + 1), ← Int.mul_assoc]
          have e5 : b * (B + 1) * (J + 1) = b * (J + 1) * (B + 1) := by rw [Int.mul_assoc, Int.mul_comm (B + 1), ← Int.mul_assoc]
          have e6 : a * (S + 1) * (B + 1) ≤ b * (J + 1) * (B + 1) := by omega
          exact Int.le_of_mul_le_mul_right e6 (by omega)
        · exact h1

/-- what was chosen gains no more: the costs of what it covers are below its rows -/
def Spent (R C out : List Int) : Prop := ∀ s ∈ out, ∀ n : Nat, n < 64 → coversB s n = true → C.getD n 0 ≤ keepZ (R.getD s.toNat 0) 16777216
theorem spent_nil (R C : List Int) : Spent R C [] := fun s h => by simp at h
theorem costOne_le (R C : List Int) (best n : Nat) : costOne R C best n ≤ C.getD n 0 := by
  unfold costOne; split <;> (try split) <;> omega
theorem spent_next (R C out : List Int) (h : Spent R C out) (p : Nat) (hp : p < 64) : Spent R (costNext R C p) (out ++ [(p : Int)]) := by
  intro s hs n hn hc
  rw [costNext_at R C p n hn]
  simp only [List.mem_append, List.mem_singleton] at hs
  rcases hs with hs | rfl
  · exact Int.le_trans (costOne_le R C p n) (h s hs n hn hc)
  · unfold costOne
    rw [if_pos hc]
    simp only [Int.toNat_natCast]
    split <;> omega
theorem spent_no (W R C out : List Int) (h : Spent R C out) (s : Nat) (hs : hasZ out s = true) : benTo s W C (R.getD s 0) 64 ≤ 0 := by
  refine benTo_le0 _ _ _ _ (fun k hk => ?_) 64 (by omega)
  unfold benOne
  split
  · rename_i hc
    have h1 := h s (by simpa [hasZ] using hs) k hk hc
    simp only [Int.toNat_natCast] at h1
    have h2 := @keepZ_ge (R.getD s 0) 16777216 (by omega)
    have h3 : keepZ (C.getD k 0) 16777216 ≤ keepZ (R.getD s 0) 16777216 := by
      unfold keepZ at h1 h2 ⊢
      split <;> (try split) <;> omega
    split
    · simp
    · have : keepZ (C.getD k 0) 16777216 - keepZ (R.getD s 0) 16777216 = 0 := by omega
      rw [this]; simp
  · omega

/-- so it stands behind some choices: with n rounds at most to come -/
structure St (W R Y L : List Int) (n : Nat) (out : List Int) (bud : Int) (C : List Int) : Prop where
  len : out.length + n = 16
  go : chooseGo W R Y n out bud C = L
  clen : C.length = 64
  spent : Spent R C out
  lo : -9223372036854775808 ≤ bud
  hi : bud ≤ 9223372036854775807
theorem St.take {W R Y L : List Int} {n : Nat} {out : List Int} {bud : Int} {C : List Int} (h : St W R Y L n out bud C) : L.take out.length = out := by
  rw [← h.go]; exact chooseGo_take W R Y n out bud C
theorem St.le {W R Y L : List Int} {n : Nat} {out : List Int} {bud : Int} {C : List Int} (h : St W R Y L n out bud C) : out.length ≤ L.length := by
  have := congrArg List.length h.take
  simp at this; omega
theorem St.at {W R Y L : List Int} {n : Nat} {out : List Int} {bud : Int} {C : List Int} (h : St W R Y L n out bud C) (i : Nat) (hi : i < out.length) : out.getD i 0 = L.getD i 0 := by
  have h1 := h.take
  have h2 : (L.take out.length).getD i 0 = L.getD i 0 := by
    simp [List.getD_eq_getElem?_getD, List.getElem?_take, hi]
  rw [h1] at h2
  exact h2
/-- a step: the next one of the list is the best -/
theorem St.step {W R Y L : List Int} {n : Nat} {out : List Int} {bud : Int} {C : List Int} (h : St W R Y L n out bud C) (hl : out.length < L.length) :
    ∃ (m p : Nat), n = m + 1 ∧ p < 64 ∧ L.getD out.length 0 = p ∧ 0 < benTo p W C (R.getD p 0) 64 ∧ spaceZ Y p ≤ bud ∧ hasZ out p = false ∧
      (∀ k : Nat, k < 64 → hasZ out k = false → spaceZ Y k ≤ bud → benTo k W C (R.getD k 0) 64 * (spaceZ Y p + 1) ≤ benTo p W C (R.getD p 0) 64 * (spaceZ Y k + 1)) ∧
      St W R Y L m (out ++ [(p : Int)]) (bud - spaceZ Y p) (costNext R C p) := by
  have hgo := h.go
  have hst := h
  cases n with
  | zero => simp only [chooseGo] at hgo; subst hgo; omega
  | succ m =>
    simp only [chooseGo] at hgo
    have ok := pick_ok W R Y C out bud 64
    have best := pick_best W R Y C out bud 64 (by omega)
    split at hgo
    · subst hgo; omega
    · rename_i hn
      obtain ⟨p, hp⟩ := Int.eq_ofNat_of_zero_le (show 0 ≤ (pickTo W R Y C out bud 64).1 by omega)
      rw [hp] at hgo best
      simp only [Int.toNat_natCast] at hgo
      obtain ⟨o1, o2, o3, o4, o5, o6, o7, o8, o9⟩ := ok
      rw [hp] at o1 o2 o5 o6 o7 o8 o9
      simp only [Int.toNat_natCast] at o6 o7 o8 o9 best
      have hv := o9 (by omega)
      have hsp := spaceZ_bd Y p
      refine ⟨m, p, rfl, by omega, ?_, ?_, o6 (by omega), o7 (by omega), ?_, ⟨by have := h.len; simp; omega, hgo, costNext_len _ _ _, spent_next R C out h.spent p (by omega), ?_, ?_⟩⟩
      · have h1 := chooseGo_take W R Y m (out ++ [(p : Int)]) (bud - spaceZ Y p) (costNext R C p)
        rw [hgo] at h1
        have h2 : (L.take (out ++ [(p : Int)]).length).getD out.length 0 = L.getD out.length 0 := by
          simp [List.getD_eq_getElem?_getD, List.getElem?_take]
        rw [h1] at h2
        rw [← h2]
        simp [List.getD_eq_getElem?_getD]
      · rw [← hv]; exact o8 (by omega)
      · intro k hk hu hf
        by_cases hg : 0 < benTo k W C (R.getD k 0) 64
        · have := best k hk (by simp [skipB, hu]; omega) hg
          rw [hv] at this
          exact this.2
        · have h1 := spaceZ_bd Y k
          have h2 : benTo k W C (R.getD k 0) 64 * (spaceZ Y p + 1) ≤ 0 := Int.mul_nonpos_of_nonpos_of_nonneg (by omega) (by omega)
          have h3 : 0 ≤ benTo p W C (R.getD p 0) 64 * (spaceZ Y k + 1) := Int.mul_nonneg (by rw [← hv]; exact Int.le_of_lt (o8 (by omega))) (by omega)
          omega
      · have := o6 (by omega); omega
      · have := h.hi; omega
/-- at the end, where there was room for more, nothing gains any more -/
theorem St.done {W R Y L : List Int} {n : Nat} {out : List Int} {bud : Int} {C : List Int} (h : St W R Y L n out bud C) (hl : out.length = L.length) (h16 : L.length ≠ 16) :
    ∀ k : Nat, k < 64 → spaceZ Y k ≤ bud → benTo k W C (R.getD k 0) 64 ≤ 0 := by
  intro k hk hf
  have hlen := h.len
  cases n with
  | zero => omega
  | succ m =>
    have hgo := h.go
    simp only [chooseGo] at hgo
    have best := pick_best W R Y C out bud 64 (by omega) k hk
    split at hgo
    · rename_i hneg
      apply Decidable.byContradiction
      intro hg
      cases hu : hasZ out k
      · have := best (by simp [skipB, hu]; omega) (by omega)
        omega
      · exact hg (spent_no W R C out h.spent k hu)
    · have h1 := chooseGo_take W R Y m (out ++ [(pickTo W R Y C out bud 64).1]) (bud - spaceZ Y (pickTo W R Y C out bud 64).1.toNat) (costNext R C (pickTo W R Y C out bud 64).1.toNat)
      rw [hgo] at h1
      have := congrArg List.length h1
      simp at this
      omega
theorem St.start (W R Y : List Int) (f b : Int) (h0 : -9223372036854775808 ≤ b) (h1 : b ≤ 9223372036854775807) : St W R Y (chooseL W R Y f b) 16 [] b (cost0 f) :=
  ⟨rfl, rfl, by simp [cost0], spent_nil _ _, h0, h1⟩
end Go.Proofs.Ytfgnmcmkjfnogaa
