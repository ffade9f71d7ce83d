/- AdvisePlays: the plain law: both logs are the same. -/
import Derived.Test.YtfgnmcmkjfnogaaT
namespace Go.Proofs.Ytfgnmcmkjfnogaa
open Go.RowKit
set_option linter.unusedVariables false
set_option linter.unusedSimpArgs false

theorem logTo_at (g : List Int) (lo k i : Nat) (h : i < k) : (logTo g lo k)[i]? = some (g.getD ((lo + i) % 64) 0) := by
  induction k with
  | zero => omega
  | succ k ih =>
    simp only [logTo]
    have hl := logTo_len g lo k
    by_cases e : i < k
    · rw [List.getElem?_append_left (by omega)]; exact ih e
    · have : i = k := by omega
      subst this
      rw [List.getElem?_append_right (by omega), hl]
      simp
theorem logL_at (g : List Int) (n i : Nat) (h : i < n - (n - 64)) : (logL g n)[i]? = some (g.getD ((n - 64 + i) % 64) 0) := logTo_at _ _ _ _ h

theorem log_step (g : List Int) (n : Nat) (x : Int) (hg : g.length = 64) : logL (g.set (n % 64) x) (n + 1) = lastL (logL g n) x := by
  have hl := logL_len g n
  have hl1 := logL_len (g.set (n % 64) x) (n + 1)
  have hmod : n % 64 < 64 := Nat.mod_lt _ (by omega)
  have hset : ∀ m, m < n → n < m + 64 → (g.set (n % 64) x).getD (m % 64) 0 = g.getD (m % 64) 0 := by
    intro m h1 h2
    have : n % 64 ≠ m % 64 := by omega
    rw [List.getD_eq_getElem?_getD, List.getElem?_set_ne this, ← List.getD_eq_getElem?_getD]
  have hnew : (g.set (n % 64) x).getD (n % 64) 0 = x := by simp [List.getD_eq_getElem?_getD, hg, hmod]
  by_cases h : n < 64
  · have e : lastL (logL g n) x = logL g n ++ [x] := by unfold lastL; rw [if_neg (by simp; omega)]
    rw [e]
    apply List.ext_getElem?
    intro i
    by_cases h1 : i < n + 1
    · rw [logL_at _ _ _ (by omega)]
      by_cases h2 : i < n
      · rw [List.getElem?_append_left (by omega), logL_at _ _ _ (by omega), show n + 1 - 64 + i = i by omega, show n - 64 + i = i by omega, hset i h2 (by omega)]
      · have : i = n := by omega
        subst this
        rw [List.getElem?_append_right (by omega), show i + 1 - 64 + i = i by omega, hnew, show i - (logL g i).length = 0 by omega]
        rfl
    · rw [List.getElem?_eq_none (by omega), List.getElem?_eq_none (by simp; omega)]
  · have e : lastL (logL g n) x = (logL g n ++ [x]).tail := by unfold lastL; rw [if_pos (by simp; omega)]
    rw [e]
    apply List.ext_getElem?
    intro i
    rw [List.getElem?_tail]
    by_cases h1 : i < 64
    · rw [logL_at _ _ _ (by omega)]
      by_cases h2 : i < 63
      · rw [List.getElem?_append_left (by omega), logL_at _ _ _ (by omega), show n + 1 - 64 + i = n - 64 + (i + 1) by omega, hset _ (by omega) (by omega)]
      · have : i = 63 := by omega
        subst this
        rw [List.getElem?_append_right (by omega), show n + 1 - 64 + 63 = n by omega, hnew, show 63 + 1 - (logL g n).length = 0 by omega]
        rfl
    · rw [List.getElem?_eq_none (by omega), List.getElem?_eq_none (by simp; omega)]
end Go.Proofs.Ytfgnmcmkjfnogaa
